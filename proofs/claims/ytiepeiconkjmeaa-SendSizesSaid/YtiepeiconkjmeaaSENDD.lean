/-
  Lemmas on the way to the statements of this seat. By an AI agent. No person has read it.
-/
import Derived.Test.YtiepeiconkjmeaaAm6
import Derived.Test.YtiepeiconkjmeaaCode
import Derived.Test.YtiepeiconkjmeaaSENDC
import Derived.Test.YtiepeiconkjmeaaSENDB
set_option linter.unusedSimpArgs false
set_option linter.unusedVariables false

namespace Go.Am
open Go
def pol : Nat := 3988292384
def sh1 (w : Nat) : Nat := w / 2 ^^^ (if w % 2 = 1 then pol else 0)
def shN : Nat → Nat → Nat
 | 0, w => w
 | n + 1, w => shN n (sh1 w)
def sh8 (w : Nat) : Nat := shN 8 w
theorem xor_lt {a b : Nat} (ha : a < 4294967296) (hb : b < 4294967296) : a ^^^ b < 4294967296 := Nat.xor_lt_two_pow (n := 32) ha hb
theorem sh1_lt {w : Nat} (h : w < 4294967296) : sh1 w < 4294967296 := by
 unfold sh1
 refine xor_lt (by omega) ?_
 split
 ·decide
 ·decide
theorem shN_lt : ∀ (n : Nat) {w : Nat}, w < 4294967296 → shN n w < 4294967296
 | 0, w, h => h
 | n + 1, w, h => shN_lt n (sh1_lt h)
theorem shN_add : ∀ (m n w : Nat), shN (m + n) w = shN n (shN m w)
 | 0, n, w => by rw [Nat.zero_add]; rfl
 | m + 1, n, w => by rw [Nat.add_right_comm, shN, shN_add m n]; rfl
def ent (k i : Nat) : Nat := shN (8 * (k + 1)) i
theorem ent_lt {k i : Nat} (h : i < 256) : ent k i < 4294967296 := shN_lt _ (by omega)
theorem ent_succ (k i : Nat) : ent (k + 1) i = sh8 (ent k i) := by
 unfold ent sh8
 rw [← shN_add]
 rfl
def upTo (n : Nat) : List Nat := if h : n = 0 then [] else upTo (n - 1) ++ [n - 1]
 termination_by n
theorem upTo_eq : ∀ n, upTo n = List.range n
 | 0 => by rw [upTo]; simp
 | n + 1 => by rw [upTo, dif_neg (by omega), Nat.add_sub_cancel, upTo_eq n, List.range_succ]
def tabL : List Nat := (upTo 1024).map fun q => ent (q / 256) (q % 256)
def tabV : AVal := .sptr (nums .u32 true tabL) 0
end Go.Am

namespace Go.Proofs.Ytiepeiconkjmeaa
open Go Go.Am
abbrev shC : Ctx := ⟨F.crc_shift, 14, [.tmp 2], none⟩
theorem and_u32 {a b : Nat} (ha : a < 4294967296) (hb : b < 4294967296) : Am.bits .and .u32 (a : Int) (b : Int) = ((a &&& b : Nat) : Int) := bits_and rfl ha hb
theorem xor_u32 {a b : Nat} (ha : a < 4294967296) (hb : b < 4294967296) : Am.bits .xor .u32 (a : Int) (b : Int) = ((a ^^^ b : Nat) : Int) := bits_xor rfl ha hb
theorem sh_loop (K : List AItem) (H : AHeap) (Q : AVal → AHeap → Prop) {v : Nat} (hK : ∀ r', rget r' 0 = .int .u32 (v : Nat) → Run Try.prog shC K r' H Q) :
  ∀ (m i w : Nat), i + m = 8 → w < 4294967296 → shN m w = v → Rounds Try.prog shC crc_shift.b0 [.inBlock 0] K [(0, .int .u32 (w : Nat)), (3, .int .i64 (i : Nat))] H Q
 | 0, i, w, h1, h2, h3 => by
  refine loop_V 100 crc_shift.b0.eq_1 ?_
  have h3' : w = v := h3
  subst h3'
  simp (disch := first | omega | (simp only [lnx]; omega)) only [stdh, stdx, ↓reduceIte, seval]
  exact hK _ rfl
 | m + 1, i, w, h1, h2, h3 => by
  refine loop_V 100 crc_shift.b0.eq_1 ?_
  have e1 : Am.bits .and .u32 (w : Int) 1 = ((w % 2 : Nat) : Int) := by
   rw [show (1 : Int) = ((1 : Nat) : Int) from rfl, and_u32 h2 (by omega), Nat.and_one_is_mod]
  have e2 : (w : Int) / 2 = ((w / 2 : Nat) : Int) := by omega
  have e3 : IntKind.u32.wrap (0 - ((w % 2 : Nat) : Int)) = ((if w % 2 = 1 then 4294967295 else 0 : Nat) : Int) := by
   rcases Nat.mod_two_eq_zero_or_one w with h | h <;> rw [h] <;> decide
  have e4 : Am.bits .and .u32 3988292384 ((if w % 2 = 1 then 4294967295 else 0 : Nat) : Int) = ((if w % 2 = 1 then pol else 0 : Nat) : Int) := by
   split <;> decide
  have e5 : Am.bits .xor .u32 ((w / 2 : Nat) : Int) ((if w % 2 = 1 then pol else 0 : Nat) : Int) = ((sh1 w : Nat) : Int) := by
   rw [xor_u32 (by omega) (by split <;> decide)]; rfl
  simp (disch := first | omega | (simp only [lnx]; omega)) only [stdh, stdx, ↓reduceIte, seval, e1, e2, e3, e4, e5]
  exact sh_loop K H Q hK m (i + 1) (sh1 w) (by omega) (sh1_lt h2) h3
theorem shift_ok (H : AHeap) {w : Nat} (hw : w < 4294967296) (Q : AVal → AHeap → Prop) (h : Q (.int .u32 (sh8 w : Nat)) H) : FunOK Try.prog F.crc_shift [.int .u32 (w : Nat)] H Q := by
 refine fun_V 100 crc_shift_code rfl ?_
 simp (disch := first | omega | (simp only [lnx]; omega)) only [stdh, stdx, ↓reduceIte, seval, crc_shift, crc_shift.body]
 refine sh_loop _ H Q (v := sh8 w) ?_ 8 0 w rfl hw rfl
 intro r' e
 refine run_V0 60 ?_
 simp (disch := first | omega | (simp only [lnx]; omega)) only [stdh, stdx, ↓reduceIte, seval, e]
 exact h
def tabC (f : Nat → Nat) : List AVal := ((upTo 1024).map f).map fun n : Nat => AVal.int .u32 (n : Int)
theorem tabC_len (f : Nat → Nat) : (tabC f).length = 1024 := by simp [tabC, upTo_eq]
theorem tabC_set (f : Nat → Nat) {q v : Nat} (h : q < 1024) : (tabC f).set q (.int .u32 (v : Int)) = tabC fun x => if x = q then v else f x := by
 apply List.ext_getElem?
 intro i
 simp only [tabC, upTo_eq, List.getElem?_set, List.length_map, List.length_range, List.getElem?_map]
 by_cases hi : i < 1024
 ·rw [List.getElem?_range hi]
  by_cases hq : q = i
  ·subst hq; simp [h]
  ·rw [if_neg hq]; simp [show ¬ i = q from fun e => hq e.symm]
 ·by_cases hq : q = i
  ·omega
  ·rw [if_neg hq]; simp [hi, show ¬ i = q from fun e => hq e.symm]
theorem tabC_congr {f g : Nat → Nat} (h : ∀ q, q < 1024 → f q = g q) : tabC f = tabC g := by
 have : (upTo 1024).map f = (upTo 1024).map g := List.map_congr_left fun q hq => h q (by rw [upTo_eq] at hq; exact List.mem_range.1 hq)
 simp only [tabC, this]
theorem tabC_set1 (f : Nat → Nat) {q v : Nat} (h : q < 1024) : fillAt (tabC f) q [.int .u32 (v : Int)] = tabC fun x => if x = q then v else f x := by
 simp only [fillAt, tabC_set f h]
def tabF (i k q : Nat) : Nat := if q % 256 < i ∨ (q % 256 = i ∧ q / 256 < k) then ent (q / 256) (q % 256) else 0
abbrev newC : Ctx := ⟨F.crc_New, 28, [.tmp 0], none⟩
theorem new_inner (K : List AItem) (H : AHeap) (Q : AVal → AHeap → Prop) {i : Nat} (hi : i < 256)
  (hK : ∀ r', rget r' 1 = .ptr H.length 0 → rget r' 7 = .int .i64 (i : Nat) → Run Try.prog newC K r' (H ++ [.cells (tabC (tabF (i + 1) 0)) T.crc_Table]) Q) :
  ∀ (m k w : Nat), k + m = 4 → (∀ k', k = k' + 1 → w = ent k' i) → (k = 0 → w = i) → Rounds Try.prog newC crc_New.b0 [.inBlock 2] K [(1, .ptr H.length 0), (2, .int .i64 (i : Nat)), (3, .int .u32 (w : Nat)), (7, .int .i64 (i : Nat)), (12, .int .i64 (k : Nat))] (H ++ [.cells (tabC (tabF i k)) T.crc_Table]) Q
 | 0, k, w, h1, h2, h3 => by
  refine loop_V 100 crc_New.b0.eq_1 ?_
  have hk : k = 4 := by omega
  subst hk
  simp (disch := first | omega | (simp only [lnx]; omega)) only [stdh, stdx, ↓reduceIte, seval]
  have e : tabC (tabF i 4) = tabC (tabF (i + 1) 0) := tabC_congr fun q hq => by
   unfold tabF
   have : q / 256 < 4 := by omega
   by_cases h : q % 256 < i ∨ (q % 256 = i ∧ q / 256 < 4)
   ·rw [if_pos h, if_pos (by omega)]
   ·rw [if_neg h, if_neg (by omega)]
  rw [e]
  exact hK _ rfl rfl
 | m + 1, k, w, h1, h2, h3 => by
  refine loop_V 100 crc_New.b0.eq_1 ?_
  have hw : w < 4294967296 ∧ sh8 w = ent k i := by
   cases k with
   | zero => rw [h3 rfl]; exact ⟨by omega, rfl⟩
   | succ k => rw [h2 k rfl]; exact ⟨ent_lt hi, (ent_succ k i).symm⟩
  simp (disch := first | omega | (simp only [lnx]; omega)) only [stdh, stdx, ↓reduceIte, seval]
  refine callK_fn (shift_ok _ hw.1 _ ?_)
  rw [hw.2]
  refine runL_V 60 ?_
  have hst : fillAt (tabC (tabF i k)) (k * 256 + i) [AVal.int .u32 (ent k i : Nat)] = tabC (tabF i (k + 1)) := by
   rw [tabC_set1 _ (by omega)]
   refine tabC_congr fun q hq => ?_
   unfold tabF
   by_cases hq2 : q = k * 256 + i
   ·subst hq2
    rw [if_pos rfl, if_pos (by omega), show (k * 256 + i) / 256 = k by omega, show (k * 256 + i) % 256 = i by omega]
   ·rw [if_neg hq2]
    by_cases h : q % 256 < i ∨ (q % 256 = i ∧ q / 256 < k)
    ·rw [if_pos h, if_pos (by omega)]
    ·rw [if_neg h, if_neg (by omega)]
  simp (disch := first | omega | (simp only [lnx]; omega)) only [stdh, stdx, ↓reduceIte, seval, hst, tabC_len]
  have := new_inner K H Q hi hK m (k + 1) (ent k i) (by omega) (fun k' e => by rw [show k' = k by omega]) (fun e => by omega)
  exact this
theorem new_outer (K : List AItem) (H : AHeap) (Q : AVal → AHeap → Prop)
  (hK : ∀ r', rget r' 1 = .ptr H.length 0 → Run Try.prog newC K r' (H ++ [.cells (tabC (tabF 256 0)) T.crc_Table]) Q) :
  ∀ (m i : Nat), i + m = 256 → Rounds Try.prog newC crc_New.b1 [.inBlock 0] K [(1, .ptr H.length 0), (7, .int .i64 (i : Nat))] (H ++ [.cells (tabC (tabF i 0)) T.crc_Table]) Q
 | 0, i, h1 => by
  refine loop_V 100 crc_New.b1.eq_1 ?_
  have hi : i = 256 := by omega
  subst hi
  simp (disch := first | omega | (simp only [lnx]; omega)) only [stdh, stdx, ↓reduceIte, seval]
  exact hK _ rfl
 | m + 1, i, h1 => by
  refine loop_V 100 crc_New.b1.eq_1 ?_
  simp (disch := first | omega | (simp only [lnx]; omega)) only [stdh, stdx, ↓reduceIte, seval]
  refine new_inner _ H Q (by omega) ?_ 4 0 i rfl (fun k' e => by omega) (fun _ => rfl)
  intro r' g1 g2
  refine run_VT 60 [_, _, _, _] K rfl ?_
  simp (disch := first | omega | (simp only [lnx]; omega)) only [stdh, stdx, ↓reduceIte, seval, g1, g2]
  exact new_outer K H Q hK m (i + 1) (by omega)
def newBody (z : List AVal) : ACode := .seq (.region [⟨(some 0), .mov (.const .nilp), none⟩] [])
 (.seq (.region [⟨(some 5), .build z [], none⟩,
  ⟨(some 6), .box T.crc_Table (.tmp 5), none⟩,
  ⟨(some 1), .mov (.tmp 6), none⟩] [1])
 (.seq (.seq (.region [⟨(some 7), .mov (.const (.int .i64 0)), none⟩] [1, 7])
 (.block 0 (.loop crc_New.b1)))
 (.seq (.region [⟨(some 27), .mov (.tmp 1), none⟩,
  ⟨(some 0), .mov (.tmp 27), none⟩] [0])
 (.ret))))
theorem newBody_eq0 : crc_New.body = newBody (List.replicate 1024 (.int .u32 0)) := by kernel_rfl
theorem newBody_eq : crc_New.body = newBody (tabC fun _ => 0) := by
 rw [newBody_eq0]
 congr 1
 refine List.ext_getElem? fun i => ?_
 simp only [tabC, upTo_eq, List.map_map, List.getElem?_map, List.getElem?_replicate]
 by_cases hi : i < 1024
 ·rw [if_pos hi, List.getElem?_range hi]; rfl
 ·rw [if_neg hi, List.getElem?_eq_none (by simp; omega)]; rfl
theorem tab_full : tabC (tabF 256 0) = tabL.map fun n : Nat => AVal.int .u32 (n : Int) := by
 have : tabC (tabF 256 0) = tabC fun q => ent (q / 256) (q % 256) := tabC_congr fun q hq => by
  unfold tabF
  rw [if_pos (by omega)]
 rw [this]; rfl
theorem tabF_zero : tabC (tabF 0 0) = tabC fun _ => 0 := tabC_congr fun q hq => by
 unfold tabF
 rw [if_neg (by omega)]
theorem tabC_closed {L : Nat} {f : Nat → Nat} : closeds L (tabC f) := by
 unfold tabC
 generalize (upTo 1024).map f = xs
 exact closeds_ints _ xs
theorem nums_sptr (xs : List Nat) : AVal.sptr (.imm (xs.map fun n : Nat => AVal.int .u32 (n : Int)) (xs.map fun n : Nat => AVal.int .u32 (n : Int)).length true) 0 = .sptr (nums .u32 true xs) 0 := by
 simp only [nums, List.length_map]
theorem tab_end {H : AHeap} {Q : AVal → AHeap → Prop} (f : Nat → Nat) (h : Q tabV H) (hf : tabC f = tabL.map fun n : Nat => AVal.int .u32 (n : Int)) : IceQ H Q (.ptr H.length 0) (H ++ [.cells (tabC f) T.crc_Table]) := by
 refine ice_ptr tabC_closed ?_
 have e : AVal.sptr (.imm (tabC f) (tabC f).length true) 0 = tabV := by
  rw [hf]
  exact nums_sptr tabL
 rw [e]; exact h
theorem new_ok (H : AHeap) (Q : AVal → AHeap → Prop) (h : Q tabV H) : FunOK Try.prog F.crc_New [] H Q := by
 refine fun_iced crc_New_code fun _ => ?_
 refine fun_V 100 crc_New_code rfl ?_
 rw [show crc_New = ⟨28, 0, [.tmp 0], newBody (tabC fun _ => 0)⟩ by rw [← newBody_eq]; rfl, ← tabF_zero]
 have hce : (tabC (tabF 0 0)).all AVal.cellish = true := by simp [tabC, AVal.cellish]
 simp (disch := first | omega | (simp only [lnx]; omega)) only [stdh, stdx, ↓reduceIte, seval, newBody, hce]
 refine new_outer _ H _ ?_ 256 0 rfl
 intro r' g1
 refine run_V0 60 ?_
 simp (disch := first | omega | (simp only [lnx]; omega)) only [stdh, stdx, ↓reduceIte, seval, g1]
 exact tab_end (tabF 256 0) h tab_full
def tabI : List Int := [0, 1996959894, 3993919788, 2567524794, 124634137, 1886057615, 3915621685, 2657392035, 249268274, 2044508324, 3772115230, 2547177864, 162941995, 2125561021, 3887607047, 2428444049,
 498536548, 1789927666, 4089016648, 2227061214, 450548861, 1843258603, 4107580753, 2211677639, 325883990, 1684777152, 4251122042, 2321926636, 335633487, 1661365465, 4195302755,
 2366115317, 997073096, 1281953886, 3579855332, 2724688242, 1006888145, 1258607687, 3524101629, 2768942443, 901097722, 1119000684, 3686517206, 2898065728, 853044451, 1172266101,
 3705015759, 2882616665, 651767980, 1373503546, 3369554304, 3218104598, 565507253, 1454621731, 3485111705, 3099436303, 671266974, 1594198024, 3322730930, 2970347812, 795835527,
 1483230225, 3244367275, 3060149565, 1994146192, 31158534, 2563907772, 4023717930, 1907459465, 112637215, 2680153253, 3904427059, 2013776290, 251722036, 2517215374, 3775830040,
 2137656763, 141376813, 2439277719, 3865271297, 1802195444, 476864866, 2238001368, 4066508878, 1812370925, 453092731, 2181625025, 4111451223, 1706088902, 314042704, 2344532202,
 4240017532, 1658658271, 366619977, 2362670323, 4224994405, 1303535960, 984961486, 2747007092, 3569037538, 1256170817, 1037604311, 2765210733, 3554079995, 1131014506, 879679996,
 2909243462, 3663771856, 1141124467, 855842277, 2852801631, 3708648649, 1342533948, 654459306, 3188396048, 3373015174, 1466479909, 544179635, 3110523913, 3462522015, 1591671054,
 702138776, 2966460450, 3352799412, 1504918807, 783551873, 3082640443, 3233442989, 3988292384, 2596254646, 62317068, 1957810842, 3939845945, 2647816111, 81470997, 1943803523,
 3814918930, 2489596804, 225274430, 2053790376, 3826175755, 2466906013, 167816743, 2097651377, 4027552580, 2265490386, 503444072, 1762050814, 4150417245, 2154129355, 426522225,
 1852507879, 4275313526, 2312317920, 282753626, 1742555852, 4189708143, 2394877945, 397917763, 1622183637, 3604390888, 2714866558, 953729732, 1340076626, 3518719985, 2797360999,
 1068828381, 1219638859, 3624741850, 2936675148, 906185462, 1090812512, 3747672003, 2825379669, 829329135, 1181335161, 3412177804, 3160834842, 628085408, 1382605366, 3423369109,
 3138078467, 570562233, 1426400815, 3317316542, 2998733608, 733239954, 1555261956, 3268935591, 3050360625, 752459403, 1541320221, 2607071920, 3965973030, 1969922972, 40735498,
 2617837225, 3943577151, 1913087877, 83908371, 2512341634, 3803740692, 2075208622, 213261112, 2463272603, 3855990285, 2094854071, 198958881, 2262029012, 4057260610, 1759359992,
 534414190, 2176718541, 4139329115, 1873836001, 414664567, 2282248934, 4279200368, 1711684554, 285281116, 2405801727, 4167216745, 1634467795, 376229701, 2685067896, 3608007406,
 1308918612, 956543938, 2808555105, 3495958263, 1231636301, 1047427035, 2932959818, 3654703836, 1088359270, 936918000, 2847714899, 3736837829, 1202900863, 817233897, 3183342108,
 3401237130, 1404277552, 615818150, 3134207493, 3453421203, 1423857449, 601450431, 3009837614, 3294710456, 1567103746, 711928724, 3020668471, 3272380065, 1510334235, 755167117, 0,
 421212481, 842424962, 724390851, 1684849924, 2105013317, 1448781702, 1329698503, 3369699848, 3519200073, 4210026634, 3824474571, 2897563404, 3048111693, 2659397006, 2274893007,
 1254232657, 1406739216, 2029285587, 1643069842, 783210325, 934667796, 479770071, 92505238, 2182846553, 2600511768, 2955803355, 2838940570, 3866582365, 4285295644, 3561045983,
 3445231262, 2508465314, 2359236067, 2813478432, 3198777185, 4058571174, 3908292839, 3286139684, 3670389349, 1566420650, 1145479147, 1869335592, 1987116393, 959540142, 539646703,
 185010476, 303839341, 3745920755, 3327985586, 3983561841, 4100678960, 3140154359, 2721170102, 2300350837, 2416418868, 396344571, 243568058, 631889529, 1018359608, 1945336319,
 1793607870, 1103436669, 1490954812, 4034481925, 3915546180, 3259968903, 3679722694, 2484439553, 2366552896, 2787371139, 3208174018, 950060301, 565965900, 177645455, 328046286,
 1556873225, 1171730760, 1861902987, 2011255754, 3132841300, 2745199637, 2290958294, 2442530455, 3738671184, 3352078609, 3974232786, 4126854035, 1919080284, 1803150877, 1079293406,
 1498383519, 370020952, 253043481, 607678682, 1025720731, 1711106983, 2095471334, 1472923941, 1322268772, 26324643, 411738082, 866634785, 717028704, 2904875439, 3024081134,
 2668790573, 2248782444, 3376948395, 3495106026, 4219356713, 3798300520, 792689142, 908347575, 487136116, 68299317, 1263779058, 1380486579, 2036719216, 1618931505, 3890672638,
 4278043327, 3587215740, 3435896893, 2206873338, 2593195963, 2981909624, 2829542713, 998479947, 580430090, 162921161, 279890824, 1609522511, 1190423566, 1842954189, 1958874764,
 4082766403, 3930137346, 3245109441, 3631694208, 2536953671, 2385372678, 2768287173, 3155920004, 1900120602, 1750776667, 1131931800, 1517083097, 355290910, 204897887, 656092572,
 1040194781, 3113746450, 2692952403, 2343461520, 2461357009, 3723805974, 3304059991, 4022511508, 4141455061, 2919742697, 3072101800, 2620513899, 2234183466, 3396041197, 3547351212,
 4166851439, 3779471918, 1725839073, 2143618976, 1424512099, 1307796770, 45282277, 464110244, 813994343, 698327078, 3838160568, 4259225593, 3606301754, 3488152955, 2158586812,
 2578602749, 2996767038, 2877569151, 740041904, 889656817, 506086962, 120682355, 1215357364, 1366020341, 2051441462, 1667084919, 3422213966, 3538019855, 4190942668, 3772220557,
 2945847882, 3062702859, 2644537544, 2226864521, 52649286, 439905287, 823476164, 672009861, 1733269570, 2119477507, 1434057408, 1281543041, 2167981343, 2552493150, 3004082077,
 2853541596, 3847487515, 4233048410, 3613549209, 3464057816, 1239502615, 1358593622, 2077699477, 1657543892, 764250643, 882293586, 532408465, 111204816, 1585378284, 1197851309,
 1816695150, 1968414767, 974272232, 587794345, 136598634, 289367339, 2527558116, 2411481253, 2760973158, 3179948583, 4073438432, 3956313505, 3237863010, 3655790371, 347922877,
 229101820, 646611775, 1066513022, 1892689081, 1774917112, 1122387515, 1543337850, 3697634229, 3313392372, 3998419255, 4148705398, 3087642289, 2702352368, 2319436851, 2468674930,
 0, 29518391, 59036782, 38190681, 118073564, 114017003, 76381362, 89069189, 236147128, 265370511, 228034006, 206958561, 152762724, 148411219, 178138378, 190596925, 472294256,
 501532999, 530741022, 509615401, 456068012, 451764635, 413917122, 426358261, 305525448, 334993663, 296822438, 275991697, 356276756, 352202787, 381193850, 393929805, 944588512,
 965684439, 1003065998, 973863097, 1061482044, 1049003019, 1019230802, 1023561829, 912136024, 933002607, 903529270, 874031361, 827834244, 815125939, 852716522, 856752605,
 611050896, 631869351, 669987326, 640506825, 593644876, 580921211, 551983394, 556069653, 712553512, 733666847, 704405574, 675154545, 762387700, 749958851, 787859610, 792175277,
 1889177024, 1901651959, 1931368878, 1927033753, 2006131996, 1985040171, 1947726194, 1976933189, 2122964088, 2135668303, 2098006038, 2093965857, 2038461604, 2017599123, 2047123658,
 2076625661, 1824272048, 1836991623, 1866005214, 1861914857, 1807058540, 1786244187, 1748062722, 1777547317, 1655668488, 1668093247, 1630251878, 1625932113, 1705433044, 1684323811,
 1713505210, 1742760333, 1222101792, 1226154263, 1263738702, 1251046777, 1339974652, 1310460363, 1281013650, 1301863845, 1187289752, 1191637167, 1161842422, 1149379777, 1103966788,
 1074747507, 1112139306, 1133218845, 1425107024, 1429406311, 1467333694, 1454888457, 1408811148, 1379576507, 1350309090, 1371438805, 1524775400, 1528845279, 1499917702, 1487177649,
 1575719220, 1546255107, 1584350554, 1605185389, 3778354048, 3774312887, 3803303918, 3816007129, 3862737756, 3892238699, 3854067506, 3833203973, 4012263992, 4007927823, 3970080342,
 3982554209, 3895452388, 3924658387, 3953866378, 3932773565, 4245928176, 4241609415, 4271336606, 4283762345, 4196012076, 4225268251, 4187931714, 4166823541, 4076923208, 4072833919,
 4035198246, 4047918865, 4094247316, 4123732899, 4153251322, 4132437965, 3648544096, 3636082519, 3673983246, 3678331705, 3732010428, 3753090955, 3723829714, 3694611429, 3614117080,
 3601426159, 3572488374, 3576541825, 3496125444, 3516976691, 3555094634, 3525581405, 3311336976, 3298595879, 3336186494, 3340255305, 3260503756, 3281337595, 3251864226, 3222399125,
 3410866088, 3398419871, 3368647622, 3372945905, 3427010420, 3448139075, 3485520666, 3456284973, 2444203584, 2423127159, 2452308526, 2481530905, 2527477404, 2539934891, 2502093554,
 2497740997, 2679949304, 2659102159, 2620920726, 2650438049, 2562027300, 2574714131, 2603727690, 2599670141, 2374579504, 2353749767, 2383274334, 2412743529, 2323684844, 2336421851,
 2298759554, 2294686645, 2207933576, 2186809023, 2149495014, 2178734801, 2224278612, 2236720739, 2266437690, 2262135309, 2850214048, 2820717207, 2858812622, 2879680249, 2934667388,
 2938704459, 2909776914, 2897069605, 2817622296, 2788420399, 2759153014, 2780249921, 2700618180, 2704950259, 2742877610, 2730399645, 3049550800, 3020298727, 3057690558, 3078802825,
 2999835404, 3004150075, 2974355298, 2961925461, 3151438440, 3121956959, 3092510214, 3113327665, 3168701108, 3172786307, 3210370778, 3197646061, 0, 3099354981, 2852767883,
 313896942, 2405603159, 937357362, 627793884, 2648127673, 3316918511, 2097696650, 1874714724, 3607201537, 1255587768, 4067088605, 3772741427, 1482887254, 1343838111, 3903140090,
 4195393300, 1118632049, 3749429448, 1741137837, 1970407491, 3452858150, 2511175536, 756094997, 1067759611, 2266550430, 449832999, 2725482306, 2965774508, 142231497, 2687676222,
 412010587, 171665333, 2995192016, 793786473, 2548850444, 2237264098, 1038456711, 1703315409, 3711623348, 3482275674, 1999841343, 3940814982, 1381529571, 1089329165, 4166106984,
 4029413537, 1217896388, 1512189994, 3802027855, 2135519222, 3354724499, 3577784189, 1845280792, 899665998, 2367928107, 2677414085, 657096608, 3137160985, 37822588, 284462994,
 2823350519, 2601801789, 598228824, 824021174, 2309093331, 343330666, 2898962447, 3195996129, 113467524, 1587572946, 3860600759, 4104763481, 1276501820, 3519211397, 1769898208,
 2076913422, 3279374443, 3406630818, 1941006535, 1627703081, 3652755532, 1148164341, 4241751952, 3999682686, 1457141531, 247015245, 3053797416, 2763059142, 470583459, 2178658330,
 963106687, 735213713, 2473467892, 992409347, 2207944806, 2435792776, 697522413, 3024379988, 217581361, 508405983, 2800865210, 4271038444, 1177467017, 1419450215, 3962007554,
 1911572667, 3377213406, 3690561584, 1665525589, 1799331996, 3548628985, 3241568279, 2039091058, 3831314379, 1558270126, 1314193216, 4142438437, 2928380019, 372764438, 75645176,
 3158189981, 568925988, 2572515393, 2346768303, 861712586, 3982079547, 1441124702, 1196457648, 4293663189, 1648042348, 3666298377, 3358779879, 1888390786, 686661332, 2421291441,
 2196002399, 978858298, 2811169155, 523464422, 226935048, 3040519789, 3175145892, 100435649, 390670639, 2952089162, 841119475, 2325614998, 2553003640, 546822429, 2029308235,
 3225988654, 3539796416, 1782671013, 4153826844, 1328167289, 1570739863, 3844338162, 1298864389, 4124540512, 3882013070, 1608431339, 3255406162, 2058742071, 1744848601, 3501990332,
 2296328682, 811816591, 584513889, 2590678532, 129869501, 3204563416, 2914283062, 352848211, 494030490, 2781751807, 3078325777, 264757620, 2450577869, 715964072, 941166918,
 2158327331, 3636881013, 1618608400, 1926213374, 3396585883, 1470427426, 4011365959, 4255988137, 1158766284, 1984818694, 3471935843, 3695453837, 1693991400, 4180638033, 1100160564,
 1395044826, 3952793279, 3019491049, 189112716, 435162722, 2706139399, 1016811966, 2217162459, 2526189877, 774831696, 643086745, 2666061564, 2354934034, 887166583, 2838900430,
 294275499, 54519365, 3145957664, 3823145334, 1532818963, 1240029693, 4048895640, 1820460577, 3560857924, 3331051178, 2117577167, 3598663992, 1858283101, 2088143283, 3301633750,
 1495127663, 3785470218, 4078182116, 1269332353, 332098007, 2876706482, 3116540252, 25085497, 2628386432, 605395429, 916469259, 2384220526, 2254837415, 1054503362, 745528876,
 2496903497, 151290352, 2981684885, 2735556987, 464596510, 1137851976, 4218313005, 3923506883, 1365741990, 3434129695, 1946996346, 1723425172, 3724871409]
def tabW : AVal := .sptr (.imm (tabI.map (AVal.int .u32)) 1024 true) 0
set_option maxRecDepth 100000 in
theorem tabW_eq : tabV = tabW := by kernel_rfl
theorem fnew_ok (H : AHeap) (Q : AVal → AHeap → Prop) (h : Q (.ptr H.length 0) (H ++ [.cells [tabW] T.frame_Codec])) : FunOK Try.prog F.frame_New [] H Q := by
 refine fun_V 60 frame_New_code rfl ?_
 simp (disch := first | omega | (simp only [lnx]; omega)) only [stdh, stdx, ↓reduceIte, seval, frame_New, frame_New.body]
 refine callK_fn (new_ok _ _ ?_)
 rw [tabW_eq]
 refine runL_V 60 ?_
 simp (disch := first | omega | (simp only [lnx]; omega)) only [stdh, stdx, ↓reduceIte, seval, show tabW.cells = [tabW] from rfl, show tabW.cellish = true from rfl]
 exact h
theorem known22_0 : FunOK Try.prog F.cuneiformlaw22_known [] [] (fun av _ => av = .bool true) := by
 refine fun_V 60 cuneiformlaw22_known_code rfl ?_
 simp (disch := first | omega | (simp only [lnx]; omega)) only [stdh, stdx, ↓reduceIte, seval, cuneiformlaw22_known, cuneiformlaw22_known.body]
 have hs : FunOK Try.prog F.send_New [.agg [.int .i64 1, .int .i64 16, .int .u32 7]] [] (fun av H => av = .tup [.ptr 2 0, .int .i64 0] ∧ H = [.cells [.int .i64 1, .int .i64 16, .int .u32 7] T.conf_Sender, .cells [tabW] T.frame_Codec, .cells [.int .i64 1, .int .i64 16, .int .u32 7, .ptr 1 0, .int .u32 7, .int .i64 0] T.send_Sender]) := by
  refine fun_V 60 send_New_code rfl ?_
  simp (disch := first | omega | (simp only [lnx]; omega)) only [stdh, stdx, ↓reduceIte, seval, send_New, send_New.body]
  refine callK_fn (fun_reck codes_ok 10000 (.int .i64 0) (by kernel_rfl) rfl rfl _ _ ?_)
  refine runL_V 60 ?_
  simp (disch := first | omega | (simp only [lnx]; omega)) only [stdh, stdx, ↓reduceIte, seval, send_New.d0]
  refine callD_fn (fnew_ok _ _ ?_)
  refine ⟨by simp (disch := first | omega | (simp only [lnx]; omega)) only [stdh, stdx, ↓reduceIte, seval], ?_⟩
  refine runD_V 60 ?_
  simp (disch := first | omega | (simp only [lnx]; omega)) only [stdh, stdx, ↓reduceIte, seval]
 refine callK_fn (FunOK.mono hs ?_)
 rintro av H ⟨rfl, rfl⟩
 refine runL_V 24 ?_
 simp (disch := first | omega | (simp only [lnx]; omega)) only [stdh, stdx, ↓reduceIte, seval, eqA]
 exact callK_reck codes_ok 100000 (.bool true) (by kernel_rfl) (fun _ => rfl)
theorem known22_ok (H : AHeap) (Q : AVal → AHeap → Prop) (h : Q (.bool true) H) : FunOK Try.prog F.cuneiformlaw22_known [] H Q := fun_frame known22_0 rfl rfl H Q h
theorem partB_pos (m : Mg) (f : Fld) : 1 ≤ (partB m f).length := by
 have one : ∀ n, 1 ≤ (putAll [n]).length := fun n => by
  rw [putAll_one, putOne_length]; exact sizeOf_pos n
 unfold partB
 split
 ·exact one _
 split
 ·exact one _
 split
 ·rw [List.length_append]; have := one m.p.length; omega
 split
 ·rw [List.length_append]; have := one m.c.length; omega
 split
 ·rw [List.length_append]; have := one (bytesOf m.t).length; omega
 ·rw [List.length_append]; have := one (bytesOf m.g).length; omega
theorem vf_ne {k v : Int} (hv : 1 ≤ v) (h : fieldsOf k ≠ []) : versionFields k v ≠ [] := by
 have hk : k = 1 ∨ k = 2 ∨ k = 3 ∨ k = 4 ∨ k = 5 := Classical.byContradiction fun hh => h (by
  unfold fieldsOf
  rw [if_neg (by omega), if_neg (by omega), if_neg (by omega), if_neg (by omega), if_neg (by omega)])
 have hr : fRobot ∈ versionFields k v := by
  rw [versionFields, List.mem_filter]
  refine ⟨?_, decide_eq_true (by show (1 : Int) ≤ v; exact hv)⟩
  rcases hk with rfl | rfl | rfl | rfl | rfl <;> simp [fieldsOf]
 intro h0
 rw [h0] at hr
 cases hr
theorem encB_ne {m : Mg} {v : Int} (h : checkM m = 0) (hv : v = 1 ∨ v = 2) : encB m v ≠ [] := by
 rw [encB_eq h hv]
 have hn := vf_ne (k := m.k) (v := v) (by omega) ((checkM_zero m).1 h).1
 cases hL : versionFields m.k v with
 | nil => exact absurd hL hn
 | cons f L =>
  intro h0
  have := congrArg List.length h0
  simp only [bodyB, List.flatMap_cons, List.length_append, List.length_nil] at this
  have := partB_pos m f
  omega
def cfE (v mtu : Int) : Nat := if v ≠ 1 ∧ v ≠ 2 then 10 else if mtu < 16 ∨ 257 < mtu then 5 else 0
theorem cfE_zero {v mtu : Int} (h : cfE v mtu = 0) : (v = 1 ∨ v = 2) ∧ 16 ≤ mtu ∧ mtu ≤ 257 := by
 unfold cfE at h
 split at h
 ·omega
 split at h
 ·omega
 ·omega
def cfV (v mtu st : Int) : List AVal := [.int .i64 v, .int .i64 mtu, .int .u32 st]
theorem conf_ok (H : AHeap) (v mtu st : Int) (Q : AVal → AHeap → Prop) (h : Q (.int .i64 (cfE v mtu : Nat)) H) : FunOK Try.prog F.conf_CheckSender [.agg (cfV v mtu st)] H Q := by
 refine fun_iced conf_CheckSender_code fun _ => ?_
 refine fun_V 60 conf_CheckSender_code rfl ?_
 unfold cfE at h
 by_cases h1 : v ≠ 1 ∧ v ≠ 2
 ·rw [if_pos h1] at h
  simp (disch := first | omega | (simp only [lnx]; omega)) only [stdh, stdx, ↓reduceIte, seval, conf_CheckSender, conf_CheckSender.body, cfV, h1.1, h1.2]
  exact ice_none trivial h
 rw [if_neg h1] at h
 have hv : v = 1 ∨ (v ≠ 1 ∧ v = 2) := by omega
 by_cases h2 : mtu < 16
 ·rw [if_pos (.inl h2)] at h
  have d2 := decide_eq_true h2
  rcases hv with hv | ⟨hv, hv2⟩
  ·have d1 := decide_eq_true hv
   simp (disch := first | omega | (simp only [lnx]; omega)) only [stdh, stdx, ↓reduceIte, seval, conf_CheckSender, conf_CheckSender.body, cfV, d1, d2]
   exact ice_none trivial h
  ·have d1 := decide_eq_false hv
   have d3 := decide_eq_true hv2
   simp (disch := first | omega | (simp only [lnx]; omega)) only [stdh, stdx, ↓reduceIte, seval, conf_CheckSender, conf_CheckSender.body, cfV, d1, d3, d2]
   exact ice_none trivial h
 have d2 := decide_eq_false h2
 by_cases h3 : 257 < mtu
 ·rw [if_pos (.inr h3)] at h
  have d4 := decide_eq_true h3
  rcases hv with hv | ⟨hv, hv2⟩
  ·have d1 := decide_eq_true hv
   simp (disch := first | omega | (simp only [lnx]; omega)) only [stdh, stdx, ↓reduceIte, seval, conf_CheckSender, conf_CheckSender.body, cfV, d1, d2, d4]
   exact ice_none trivial h
  ·have d1 := decide_eq_false hv
   have d3 := decide_eq_true hv2
   simp (disch := first | omega | (simp only [lnx]; omega)) only [stdh, stdx, ↓reduceIte, seval, conf_CheckSender, conf_CheckSender.body, cfV, d1, d3, d2, d4]
   exact ice_none trivial h
 ·rw [if_neg (by omega)] at h
  have d4 := decide_eq_false h3
  rcases hv with hv | ⟨hv, hv2⟩
  ·have d1 := decide_eq_true hv
   simp (disch := first | omega | (simp only [lnx]; omega)) only [stdh, stdx, ↓reduceIte, seval, conf_CheckSender, conf_CheckSender.body, cfV, d1, d2, d4]
   exact ice_none trivial h
  ·have d1 := decide_eq_false hv
   have d3 := decide_eq_true hv2
   simp (disch := first | omega | (simp only [lnx]; omega)) only [stdh, stdx, ↓reduceIte, seval, conf_CheckSender, conf_CheckSender.body, cfV, d1, d3, d2, d4]
   exact ice_none trivial h
theorem most_ok (H : AHeap) {x : Int} (hx : 13 ≤ x ∧ x ≤ 254) (Q : AVal → AHeap → Prop) (h : Q (.int .i64 (x + 1)) H) : FunOK Try.prog F.cobs_Most [.int .i64 x] H Q := by
 refine fun_V 60 cobs_Most_code rfl ?_
 by_cases he : x = 254
 ·subst he
  simp (disch := first | omega | (simp only [lnx]; omega)) only [stdh, stdx, ↓reduceIte, seval, cobs_Most, cobs_Most.body, show (254 : Int).tdiv 254 = 1 from rfl, show (254 : Int).tmod 254 = 0 from rfl]
  exact h
 ·have e1 : x.tdiv 254 = 0 := by rw [Int.tdiv_eq_ediv_of_nonneg (by omega)]; omega
  have e2 : x.tmod 254 = x := by rw [Int.tmod_eq_emod_of_nonneg (by omega)]; omega
  have d0 : decide (x = 0) = false := decide_eq_false (by omega)
  simp (disch := first | omega | (simp only [lnx]; omega)) only [stdh, stdx, ↓reduceIte, seval, cobs_Most, cobs_Most.body, e1, e2, d0]
  exact h
theorem wire_ok (H : AHeap) {x : Int} (hx : 1 ≤ x ∧ x ≤ 242) (Q : AVal → AHeap → Prop) (h : Q (.int .i64 (x + 15)) H) : FunOK Try.prog F.frame_Wire [.int .i64 x] H Q := by
 refine fun_V 60 frame_Wire_code rfl ?_
 simp (disch := first | omega | (simp only [lnx]; omega)) only [stdh, stdx, ↓reduceIte, seval, frame_Wire, frame_Wire.body]
 refine callK_fn (most_ok _ (by omega) _ ?_)
 refine runL_V 60 ?_
 simp (disch := first | omega | (simp only [lnx]; omega)) only [stdh, stdx, ↓reduceIte, seval]
 rw [show x + 12 + 1 + 2 = x + 15 by omega]
 exact h
theorem froom_ok (H : AHeap) {x : Int} (hx : 16 ≤ x ∧ x ≤ 257) (Q : AVal → AHeap → Prop) (h : Q (.int .i64 (x - 15)) H) : FunOK Try.prog F.frame_Room [.int .i64 x] H Q := by
 refine fun_V 60 frame_Room_code rfl ?_
 simp (disch := first | omega | (simp only [lnx]; omega)) only [stdh, stdx, ↓reduceIte, seval, frame_Room, frame_Room.body]
 refine callK_fn (wire_ok _ (by omega) _ ?_)
 refine runL_V 60 ?_
 simp (disch := first | omega | (simp only [lnx]; omega)) only [stdh, stdx, ↓reduceIte, seval]
 refine callK_fn (wire_ok _ (by omega) _ ?_)
 refine runL_V 60 ?_
 simp (disch := first | omega | (simp only [lnx]; omega)) only [stdh, stdx, ↓reduceIte, seval]
 have e : (if 242 < x - 16 + 1 then (242 : Int) else x - 16 + 1) = x - 15 := by split <;> omega
 rw [e]
 exact h
theorem croom_ok (H : AHeap) {v mtu : Int} (st : Int) (hc : cfE v mtu = 0) (Q : AVal → AHeap → Prop) (h : Q (.int .i64 (mtu - 15)) H) : FunOK Try.prog F.conf_Room [.agg (cfV v mtu st)] H Q := by
 obtain ⟨_, b1, b2⟩ := cfE_zero hc
 refine fun_iced conf_Room_code fun _ => ?_
 refine fun_V 60 conf_Room_code rfl ?_
 simp (disch := first | omega | (simp only [lnx]; omega)) only [stdh, stdx, ↓reduceIte, seval, conf_Room, conf_Room.body, cfV]
 refine callK_fn (conf_ok _ v mtu st _ ?_)
 rw [hc]
 refine runL_V 60 ?_
 simp (disch := first | omega | (simp only [lnx]; omega)) only [stdh, stdx, ↓reduceIte, seval]
 refine callK_fn (froom_ok _ ⟨b1, b2⟩ _ ?_)
 refine runL_V 60 ?_
 simp (disch := first | omega | (simp only [lnx]; omega)) only [stdh, stdx, ↓reduceIte, seval]
 exact ice_none trivial h
theorem cframes_ok (H : AHeap) {v mtu : Int} (st : Int) (hc : cfE v mtu = 0) {n : Nat} (hn : 1 ≤ n ∧ n ≤ 192) (Q : AVal → AHeap → Prop) (h : Q (.int .i64 (cntP n (mtu - 15).toNat : Nat)) H) : FunOK Try.prog F.conf_Frames [.agg (cfV v mtu st), .int .i64 (n : Nat)] H Q := by
 obtain ⟨_, b1, b2⟩ := cfE_zero hc
 obtain ⟨r, hr⟩ : ∃ r : Nat, mtu - 15 = (r : Int) := ⟨(mtu - 15).toNat, by omega⟩
 refine fun_iced conf_Frames_code fun _ => ?_
 refine fun_V 60 conf_Frames_code rfl ?_
 simp (disch := first | omega | (simp only [lnx]; omega)) only [stdh, stdx, ↓reduceIte, seval, conf_Frames, conf_Frames.body, cfV]
 refine callK_fn (croom_ok _ st hc _ ?_)
 rw [hr] at h ⊢
 refine runL_V 60 ?_
 simp (disch := first | omega | (simp only [lnx]; omega)) only [stdh, stdx, ↓reduceIte, seval]
 refine callK_fn (count_ok _ (by omega) (by omega) (by omega) (by omega) _ ?_)
 refine runL_V 60 ?_
 simp (disch := first | omega | (simp only [lnx]; omega)) only [stdh, stdx, ↓reduceIte, seval]
 exact ice_none trivial h
abbrev cbC : Ctx := ⟨F.conf_Bytes, 29, [.tmp 4], none⟩
theorem cb_loop (K : List AItem) (H : AHeap) (Q : AVal → AHeap → Prop) {n r k : Nat} (hr : 0 < r ∧ r ≤ 242) (hn : n ≤ 192) (hk : k = cntP n r) (hK : ∀ rr, rget rr 5 = .int .i64 ((n + 15 * k : Nat) : Int) → Run Try.prog cbC K rr H Q) :
  ∀ (z i : Nat), k - i = z → i ≤ k → Rounds Try.prog cbC conf_Bytes.b0 [.inBlock 0] K [(1, .int .i64 ((n - i * r : Nat) : Int)), (5, .int .i64 ((n - (n - i * r) + 15 * i : Nat) : Int)), (6, .int .i64 (r : Nat)), (7, .int .i64 ((k - i : Nat) : Int))] H Q
 | z, i, h1, h2 => by
  refine loop_V 60 conf_Bytes.b0.eq_1 ?_
  have hkl : k ≤ n := by rw [hk]; exact cntP_le hr.1
  by_cases hi : i < k
  ·have hlt : i * r < n := (cntP_lt hr.1).1 (hk ▸ hi)
   have hs : (i + 1) * r = i * r + r := by rw [Nat.add_mul, Nat.one_mul]
   have hmin : (if (r : Int) < ((n - i * r : Nat) : Int) then (r : Int) else ((n - i * r : Nat) : Int)) = ((min r (n - i * r) : Nat) : Int) := by split <;> omega
   have d0 : decide ((0 : Int) < ((k - i : Nat) : Int)) = true := decide_eq_true (by omega)
   simp (disch := first | omega | (simp only [lnx]; omega)) only [stdh, stdx, ↓reduceIte, seval, d0]
   try rw [hmin]
   refine callK_fn (wire_ok _ (by omega) _ ?_)
   refine runL_V 60 ?_
   simp (disch := first | omega | (simp only [lnx]; omega)) only [stdh, stdx, ↓reduceIte, seval]
   have e1 : ((n - i * r : Nat) : Int) - ((min r (n - i * r) : Nat) : Int) = ((n - (i + 1) * r : Nat) : Int) := by rw [hs]; generalize i * r = t at *; omega
   have e2 : ((n - (n - i * r) + 15 * i : Nat) : Int) + (((min r (n - i * r) : Nat) : Int) + 15) = ((n - (n - (i + 1) * r) + 15 * (i + 1) : Nat) : Int) := by rw [hs]; generalize i * r = t at *; omega
   rw [e1, e2, show ((k - i : Nat) : Int) - 1 = ((k - (i + 1) : Nat) : Int) by omega]
   exact cb_loop K H Q hr hn hk hK _ (i + 1) rfl (by omega)
  ·have d0 : decide ((0 : Int) < ((k - i : Nat) : Int)) = false := decide_eq_false (by omega)
   simp (disch := first | omega | (simp only [lnx]; omega)) only [stdh, stdx, ↓reduceIte, seval, d0]
   have hz : n - i * r = 0 := by
    have := cntP_ge (n := n) hr.1
    have e : i = cntP n r := by omega
    rw [e]; omega
   refine hK _ ?_
   rw [hz, show i = k by omega]
   rfl
 termination_by z => z
theorem cbytes_ok (H : AHeap) {v mtu : Int} (st : Int) (hc : cfE v mtu = 0) {n : Nat} (hn : 1 ≤ n ∧ n ≤ 192) (Q : AVal → AHeap → Prop) (h : Q (.int .i64 ((n + 15 * cntP n (mtu - 15).toNat : Nat) : Int)) H) : FunOK Try.prog F.conf_Bytes [.agg (cfV v mtu st), .int .i64 (n : Nat)] H Q := by
 obtain ⟨_, b1, b2⟩ := cfE_zero hc
 obtain ⟨r, hr⟩ : ∃ r : Nat, mtu - 15 = (r : Int) := ⟨(mtu - 15).toNat, by omega⟩
 refine fun_iced conf_Bytes_code fun _ => ?_
 refine fun_V 60 conf_Bytes_code rfl ?_
 simp (disch := first | omega | (simp only [lnx]; omega)) only [stdh, stdx, ↓reduceIte, seval, conf_Bytes, conf_Bytes.body, cfV]
 refine callK_fn (croom_ok _ st hc _ ?_)
 refine runL_V 60 ?_
 simp (disch := first | omega | (simp only [lnx]; omega)) only [stdh, stdx, ↓reduceIte, seval]
 refine callK_fn (cframes_ok _ st hc hn _ ?_)
 rw [hr] at h ⊢
 simp only [Int.toNat_natCast] at h ⊢
 refine runL_V 60 ?_
 simp (disch := first | omega | (simp only [lnx]; omega)) only [stdh, stdx, ↓reduceIte, seval]
 have := cb_loop [.code (.seq (.region [⟨some 28, .mov (.tmp 5), none⟩, ⟨some 4, .mov (.tmp 28), none⟩] [4]) .ret)] (H ++ [ABlk.cells (cfV v mtu st) T.conf_Sender]) (IceQ H Q) (n := n) (r := r) (k := cntP n r) (by omega) (by omega) rfl ?_ _ 0 rfl (Nat.zero_le _)
 ·simpa [cfV] using this
 ·intro rr h5
  refine run_V0 60 ?_
  simp (disch := first | omega | (simp only [lnx]; omega)) only [stdh, stdx, ↓reduceIte, seval, h5]
  exact ice_none trivial h
def sndV (v mtu st nx : Int) (cod : Nat) (sent : Int) : ABlk := .cells [.int .i64 v, .int .i64 mtu, .int .u32 st, .ptr cod 0, .int .u32 nx, .int .i64 sent] T.send_Sender
theorem snew_bad (H : AHeap) {v mtu : Int} (st : Int) (hc : cfE v mtu ≠ 0) (Q : AVal → AHeap → Prop) (h : Q (.tup [.nilp, .int .i64 (cfE v mtu : Nat)]) H) : FunOK Try.prog F.send_New [.agg (cfV v mtu st)] H Q := by
 refine fun_iced send_New_code fun _ => ?_
 refine fun_V 60 send_New_code rfl ?_
 simp (disch := first | omega | (simp only [lnx]; omega)) only [stdh, stdx, ↓reduceIte, seval, send_New, send_New.body, cfV]
 refine callK_fn (conf_ok _ v mtu st _ ?_)
 refine runL_V 60 ?_
 have hd : decide ((cfE v mtu : Int) = 0) = false := decide_eq_false (by omega)
 simp (disch := first | omega | (simp only [lnx]; omega)) only [stdh, stdx, ↓reduceIte, seval, hd]
 exact ice_none ⟨trivial, trivial, trivial⟩ h
theorem snew_ok (H : AHeap) {v mtu : Int} (st : Int) (hc : cfE v mtu = 0) (Q : AVal → AHeap → Prop) (h : Q (.tup [.ptr (H.length + 2) 0, .int .i64 0]) (H ++ [.cells (cfV v mtu st) T.conf_Sender, .cells [tabW] T.frame_Codec, sndV v mtu st st (H.length + 1) 0])) : FunOK Try.prog F.send_New [.agg (cfV v mtu st)] H Q := by
 refine fun_V 60 send_New_code rfl ?_
 simp (disch := first | omega | (simp only [lnx]; omega)) only [stdh, stdx, ↓reduceIte, seval, send_New, send_New.body, cfV]
 refine callK_fn (conf_ok _ v mtu st _ ?_)
 rw [hc]
 refine runL_V 60 ?_
 simp (disch := first | omega | (simp only [lnx]; omega)) only [stdh, stdx, ↓reduceIte, seval, send_New.d0]
 refine callD_fn (fnew_ok _ _ ?_)
 refine ⟨by simp (disch := first | omega | (simp only [lnx]; omega)) only [stdh, stdx, ↓reduceIte, seval], ?_⟩
 refine runD_V 60 ?_
 simp (disch := first | omega | (simp only [lnx]; omega)) only [stdh, stdx, ↓reduceIte, seval]
 simpa [cfV, sndV] using h
theorem sadd_ok (H : AHeap) {x : Int} (Q : AVal → AHeap → Prop) (h : Q (.int .u32 (IntKind.u32.wrap (x + 1))) H) : FunOK Try.prog F.serial_Add [.int .u32 x, .int .i64 1] H Q := by
 refine fun_V 60 serial_Add_code rfl ?_
 simp (disch := first | omega | (simp only [lnx]; omega)) only [stdh, stdx, ↓reduceIte, seval, serial_Add, serial_Add.body]
 exact h
theorem frame_fine {m : Mg} {v mtu nx : Int} (hm : m.fine) (hc : cfE v mtu = 0) (hb : bcheckE m v = 0) : frameErr ⟨v, m.k, nx, 0, 0⟩ (encB m v) (mtu - 15) = 0 := by
 obtain ⟨b0, b1, b2⟩ := cfE_zero hc
 obtain ⟨hv, hz⟩ := bcheck_zero hb
 have hl := encB_192 hm v
 have hne := encB_ne hz b0
 have hk := ((checkM_zero m).1 hz).1
 have hk5 : m.k = 1 ∨ m.k = 2 ∨ m.k = 3 ∨ m.k = 4 ∨ m.k = 5 := Classical.byContradiction fun hh => hk (by
  unfold fieldsOf
  rw [if_neg (by omega), if_neg (by omega), if_neg (by omega), if_neg (by omega), if_neg (by omega)])
 have hlp : (encB m v).length ≠ 0 := fun h => hne (List.length_eq_zero_iff.1 h)
 have c1 := cntP_pos (n := (encB m v).length) (r := (mtu - 15).toNat) (by omega)
 have c2 := cntP_le (n := (encB m v).length) (r := (mtu - 15).toNat) (by omega)
 rw [frameErr, if_neg hlp, if_neg (by omega), if_neg (by omega)]
 generalize cntP (encB m v).length (mtu - 15).toNat = c at *
 have q0 : bads (hdAt ⟨v, m.k, nx, 0, 0⟩ 0 (c : Nat)) 0 = false := by rw [bads, if_pos rfl]; exact decide_eq_false (by simp only [hdAt]; omega)
 have q1 : bads (hdAt ⟨v, m.k, nx, 0, 0⟩ 0 (c : Nat)) 1 = false := by rw [bads, if_neg (by omega), if_pos rfl]; exact decide_eq_false (by simp only [hdAt]; omega)
 have q2 : bads (hdAt ⟨v, m.k, nx, 0, 0⟩ 0 (c : Nat)) 2 = false := by rw [bads, if_neg (by omega), if_neg (by omega)]; exact decide_eq_false (by simp only [hdAt]; omega)
 rw [checkOf, q0, q1, q2]
 rfl
end Go.Proofs.Ytiepeiconkjmeaa
