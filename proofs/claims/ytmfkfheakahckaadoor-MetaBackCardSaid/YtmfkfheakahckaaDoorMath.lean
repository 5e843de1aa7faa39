/- Plain facts on the 32-bit register of package crc: its step is linear and one-to-one; sums of joined, xored and turned bytes; no condition, no program. -/
namespace Go.Proofs.YtmfkfheakahckaaDoor.Crc
def poly : BitVec 32 := 0xEDB88320#32
def zt (x : BitVec 32) : BitVec 32 := (x >>> 1) ^^^ (if x.getLsbD 0 then poly else 0#32)
theorem zt_xor (x y : BitVec 32) : zt (x ^^^ y) = zt x ^^^ zt y := by
  unfold zt
  rw [show (x ^^^ y) >>> 1 = (x >>> 1) ^^^ (y >>> 1) from BitVec.ushiftRight_xor_distrib x y 1, BitVec.getLsbD_xor]
  generalize x >>> 1 = a
  generalize y >>> 1 = b
  cases x.getLsbD 0 <;> cases y.getLsbD 0 <;> simp
  · rw [BitVec.xor_assoc]
  · rw [BitVec.xor_assoc, BitVec.xor_assoc, BitVec.xor_comm b]
  · rw [BitVec.xor_assoc, BitVec.xor_comm poly, BitVec.xor_assoc, BitVec.xor_self, BitVec.xor_zero]
theorem zt_bit (x : BitVec 32) (i : Nat) (_hi : i < 32) : (zt x).getLsbD i = (x.getLsbD (i + 1) ^^ (x.getLsbD 0 && poly.getLsbD i)) := by
  unfold zt
  rw [BitVec.getLsbD_xor, BitVec.getLsbD_ushiftRight, Nat.add_comm]
  cases x.getLsbD 0 <;> simp
theorem zt_inj (x : BitVec 32) (h : zt x = 0#32) : x = 0#32 := by
  have hb : ∀ i, i < 32 → (zt x).getLsbD i = false := fun i _ => by rw [h]; simp
  have h31 := hb 31 (by omega)
  rw [zt_bit _ _ (by omega), BitVec.getLsbD_of_ge x 32 (by omega), show poly.getLsbD 31 = true from by decide] at h31
  have h0 : x.getLsbD 0 = false := by simpa using h31
  apply BitVec.eq_of_getLsbD_eq
  intro i hi
  match i with
  | 0 => rw [h0]; simp
  | i + 1 =>
    have := hb i (by omega)
    rw [zt_bit _ _ (by omega), h0] at this
    simpa using this
def it : Nat → BitVec 32 → BitVec 32
  | 0, x => x
  | n + 1, x => it n (zt x)
theorem it_add (m n : Nat) (x : BitVec 32) : it (m + n) x = it n (it m x) := by
  induction m generalizing x with
  | zero => simp [it]
  | succ m ih => rw [Nat.succ_add]; exact ih _
theorem it_succ (n : Nat) (x : BitVec 32) : it (n + 1) x = zt (it n x) := it_add n 1 x
theorem it_xor (n : Nat) (x y : BitVec 32) : it n (x ^^^ y) = it n x ^^^ it n y := by
  induction n generalizing x y with
  | zero => rfl
  | succ n ih => simp only [it, zt_xor, ih]
theorem xor_eq_zero {x y : BitVec 32} (h : x ^^^ y = 0#32) : x = y := by
  have : (x ^^^ y) ^^^ y = 0#32 ^^^ y := by rw [h]
  simpa [BitVec.xor_assoc] using this
theorem it_inj0 (n : Nat) (x : BitVec 32) (h : it n x = 0#32) : x = 0#32 := by
  induction n generalizing x with
  | zero => exact h
  | succ n ih => exact zt_inj _ (ih _ h)
theorem it_inj (n : Nat) {x y : BitVec 32} (h : it n x = it n y) : x = y := by
  apply xor_eq_zero
  apply it_inj0 n
  rw [it_xor, h]; simp
theorem it_zero (n : Nat) : it n 0#32 = 0#32 := by
  induction n with
  | zero => rfl
  | succ n ih => rw [it_succ, ih]; decide
/-- a bit that goes down to the lowest place -/
theorem it_down (j : Nat) (hj : j < 32) : it j (1#32 <<< j) = 1#32 := by
  have h : (List.range 32).all (fun j => it j (1#32 <<< j) == 1#32) = true := by decide +kernel
  exact eq_of_beq (List.all_eq_true.1 h j (List.mem_range.2 hj))
/-! bits do not come again within 16000 steps -/
def ztN (x : Nat) : Nat := (x >>> 1) ^^^ ((x % 2) * 3988292384)
theorem ztN_eq (x : BitVec 32) : (zt x).toNat = ztN x.toNat := by
  unfold zt ztN
  rw [BitVec.toNat_xor, BitVec.toNat_ushiftRight]
  have : x.getLsbD 0 = decide (x.toNat % 2 = 1) := by rw [BitVec.getLsbD, Nat.testBit_zero]
  rw [this]
  rcases Nat.mod_two_eq_zero_or_one x.toNat with h | h <;> rw [h] <;> simp [poly]
def run : Nat → Nat → Option Nat
  | 0, x => some x
  | n + 1, x => if ztN x == 1 then none else run n (ztN x)
def okFrom : List Nat → Bool
  | a :: b :: r => run 20 a == some b && okFrom (b :: r)
  | _ => true
theorem run_some (n : Nat) (x : BitVec 32) (y : Nat) (h : run n x.toNat = some y) : (∀ d, 0 < d → d ≤ n → it d x ≠ 1#32) ∧ (it n x).toNat = y := by
  induction n generalizing x with
  | zero => exact ⟨fun d h0 h1 => by omega, by simpa [run, it] using h⟩
  | succ n ih =>
    rw [run, ← ztN_eq] at h
    split at h
    · cases h
    · rename_i hne
      obtain ⟨h1, h2⟩ := ih _ h
      refine ⟨fun d h0 hd => ?_, h2⟩
      match d with
      | 1 => intro e; apply hne; have e' : zt x = 1#32 := e; rw [e']; rfl
      | d + 2 => exact h1 (d + 1) (by omega) (by omega)
theorem okFrom_ne (l : List Nat) (x : BitVec 32) (h : okFrom (x.toNat :: l) = true) : ∀ d, 0 < d → d ≤ 20 * l.length → it d x ≠ 1#32 := by
  induction l generalizing x with
  | nil => intro d h0 h1; simp at h1; omega
  | cons b r ih =>
    simp only [okFrom, Bool.and_eq_true, beq_iff_eq] at h
    obtain ⟨h1, h2⟩ := run_some 20 x b h.1
    have h3 := h.2
    rw [← h2] at h3
    intro d h0 hd
    by_cases hle : d ≤ 20
    · exact h1 d h0 hle
    · rw [List.length_cons] at hd
      rw [show d = 20 + (d - 20) by omega, it_add]
      exact ih _ h3 (d - 20) (by omega) (by omega)
def marks : List Nat := [1, 472294256, 1029712304, 2092642603, 4022496062, 3020400346, 3120290792, 782457880, 1701264198, 24282700, 2777387022, 459264464, 1012982536, 3653960626, 3483244488, 3048403821, 2940506695, 2853796406, 2744526924, 1845281090, 2217810417, 2152668436, 570667792, 2002185398, 3402862223, 190955015, 2162840294, 3849100645, 1499871339, 2084369577, 4234069917, 3670562329, 472356885, 1744654304, 193059969, 2080608855, 3808900991, 481735255, 1717698988, 451693109, 1973405341, 2377997488, 3736543237, 3535221579, 3078103114, 3198316831, 1125641793, 2441727378, 2433674945, 2841631231, 2148622641, 2300403634, 968642652, 131487649, 4096698278, 3721944696, 1842873561, 1434192965, 1481571101, 1088573604, 3245454595, 347438399, 3940425744, 1461697720, 3813948384, 2509479209, 286826044, 1889012986, 2023887560, 2490198010, 510609150, 4049047595, 3736164895, 1862604664, 2636616483, 3770839467, 3497639852, 404871356, 719239835, 2370027757, 1013279981, 1526216951, 2623224801, 872991669, 2407765384, 3427945516, 1415629720, 3716433692, 3594147494, 1903759881, 4020189335, 2584012301, 2031106976, 2267222041, 3050734073, 1931498585, 7860237, 1295210906, 793291971, 1313412376, 3315454115, 652652330, 1385518199, 4039643584, 2093539815, 2326855268, 3892432016, 238632648, 2063099261, 2091441945, 1673367643, 1193698846, 1909803609, 1113940652, 2093787791, 2829805907, 174032892, 2322500082, 1615180505, 562064487, 540196789, 927526277, 794676468, 3013466699, 4149682861, 1558832765, 2961339357, 1114358765, 245093836, 846285760, 1386886894, 490955249, 516307363, 2071901710, 4224157504, 361581120, 1272278648, 1912770263, 2324974123, 685682011, 2043594401, 713591186, 2074967561, 3151629265, 2610682832, 3837466237, 458441985, 2267613988, 1449581260, 2686352678, 3317109095, 1869320310, 3039514681, 1832232802, 3398837929, 3250403072, 820377219, 1922779988, 623159169, 1841953362, 2341307973, 3844461133, 1773926285, 833711688, 804494114, 2981822509, 1960767269, 226780605, 1266243026, 3074229893, 1196103352, 3680120450, 2519920757, 2284620877, 3080742266, 3319871676, 3446053440, 4261784775, 3087025944, 3497827502, 2052036727, 3830590400, 2635116053, 3406564562, 3715965411, 2566349920, 524629253, 610628190, 3021915734, 4192334288, 1919184503, 3664899832, 3269248103, 1610613349, 2942479252, 2653313809, 3693125820, 2458823511, 2375823587, 3095745485, 3850101308, 64975357, 1661623340, 3470750427, 3333279661, 3971985042, 3935902604, 985341835, 2774340884, 586025410, 1169384352, 3927134139, 329399410, 512849697, 2197568554, 584676233, 2229731521, 3767964942, 657938945, 2454624345, 1647412998, 1954819235, 2376924576, 1879898734, 1516508142, 3925655421, 3670169581, 1999747235, 1868717006, 2862015397, 3810506303, 3514527249, 2034334323, 1191071213, 894828463, 2688759255, 3828621403, 553329834, 4135660096, 970065869, 896344223, 215709751, 291145018, 2430826808, 65302104, 1568929970, 1448882053, 3316900860, 135310732, 949694664, 535344435, 3482824785, 2793862008, 2889862421, 1083469338, 27426657, 4224340026, 1424578168, 1273791589, 1595967503, 2157733467, 2949844606, 2651099098, 7144146, 2662649565, 422821057, 3395474309, 1056752280, 933300511, 3223968661, 3607484602, 349519065, 1898254576, 2616490687, 277859198, 3060619232, 1191541061, 2359206281, 1071063814, 698019390, 3990879481, 2624819745, 3834733727, 1621834884, 567358650, 1313572973, 636106151, 1534733698, 1232391812, 2572680456, 2696395687, 2366409949, 1717755489, 1373482249, 439173944, 2497735135, 2554866684, 4047818687, 1038502153, 3331167349, 747344234, 2002641239, 36665058, 3773458260, 493291680, 2439577643, 124192448, 2571982305, 3467115621, 832978495, 338485255, 674072229, 2074539513, 490570264, 3852621142, 3290413100, 2994031452, 1679512183, 893361015, 991173060, 2897558113, 370782874, 4209215782, 597857416, 2603042011, 3621876687, 1172603542, 1956026679, 989032252, 1636086280, 2512363810, 500245610, 2363671926, 2415223966, 173136082, 3580284058, 2269385026, 389605575, 3385266243, 1728408994, 3247610308, 4024229027, 4037765796, 108052496, 279805197, 335984210, 4205273234, 1357456906, 2726609313, 3546373688, 4189803122, 1501805597, 3999481731, 1205789141, 3563227566, 402200460, 4047619859, 105840252, 2955218150, 1992649494, 922855284, 3985021179, 1294708144, 1232618132, 3725152645, 1858264258, 450724923, 2516760989, 2176250947, 1836260163, 4112287937, 514798052, 2154762323, 2477185881, 1470297810, 1137666857, 2134779871, 1632760012, 2954023596, 3139112220, 3270367779, 1077451196, 2541681174, 3481186326, 1712639334, 3772752483, 3135075259, 3780861426, 2246497830, 740284350, 2787507453, 977254582, 3134169751, 1306519317, 10337729, 548020790, 3467017359, 1697764999, 2597577589, 1037736578, 4053362832, 4079819370, 3505499007, 3810705370, 3570808290, 3368946581, 4189181365, 1458948461, 3360620572, 889805209, 3723881784, 3354655856, 853369035, 106677712, 3452099803, 4275374010, 2128126788, 3336377316, 3230365842, 2265534405, 601349932, 2576423619, 1281965854, 3443770980, 1817326002, 857537229, 2229279429, 420078989, 3898367423, 1007048638, 1492248202, 2387837987, 3458627692, 799035796, 2616251053, 2622721050, 597363252, 1053938527, 1962139218, 1126959639, 2022253434, 1467877556, 149367631, 2338719986, 3387206538, 1668144576, 3589218892, 871688584, 3385422906, 1816611805, 2341099044, 2179849018, 4008838764, 2573628486, 253017164, 3744931043, 1443910409, 1379893229, 611294111, 1151479519, 2339683295, 94450570, 1247387679, 3154459758, 3324029926, 3527716202, 2551421523, 2820549813, 179743200, 1118121849, 596376440, 292523994, 3406608808, 1714253464, 20521638, 968750451, 3355304669, 3435699315, 884249425, 2971114425, 3556445450, 2468423372, 2875116177, 3395223606, 3729221210, 2022972271, 109055073, 2173096912, 1508597059, 2050270998, 3908709562, 3383664558, 2657587153, 3823815784, 2750778037, 1157601387, 1827049258, 3164287483, 1517033841, 3460646957, 3896137456, 1155083916, 420026753, 582353184, 893784992, 521964771, 3836564515, 278781958, 700200442, 3862334826, 1299437808, 3832794178, 3098814058, 1913502326, 3096505714, 294400950, 1980282378, 3337579279, 98534959, 1365835910, 1879168890, 3657488776, 639396495, 2703040725, 2983192852, 1120264860, 1497002356, 1034631822, 2639529901, 780528649, 3124367781, 2101365942, 1739851368, 2756612170, 1690487036, 527202411, 2911344440, 3439260405, 1310057979, 1957611417, 2857554774, 2939772742, 3093463713, 1190710308, 1834546024, 355340945, 2406346535, 319822922, 32079501, 1967475245, 2109635042, 3923874164, 292728584, 775041788, 567598524, 4212045220, 118885470, 1390252674, 2585757463, 3518190440, 1050297293, 801188055, 694549986, 3693273218, 742575333, 186497623, 2524982033, 267801805, 3969753105, 1664853810, 401289332, 1840511055, 1548551545, 2386207859, 2907733575, 4035428814, 371638242, 1746023265, 928859638, 4098531075, 2682064933, 2942216077, 716228445, 3598185987, 2167205885, 1651584999, 762827532, 1616752613, 2156257100, 4104492984, 1061772711, 2940412410, 3707046026, 1095308056, 2690694132, 2216029241, 2434222287, 1973033123, 1154875766, 15084195, 3544166793, 1432815118, 2619002733, 269456649, 2211032604, 3322947211, 2255778546, 3270091481, 3454243947, 1014534725, 154203989, 2924199425, 518729852, 2357650271, 3187668465, 201787065, 723483488, 2437311536, 1141262836, 3432823316, 3408926617, 1961444970, 498975058, 2157789136, 3200783511, 4025820230, 1504149254, 2450181016, 189982866, 249194648, 885079730, 24718933, 1370807142, 4062575144, 2261812908, 6722866, 2645922189, 488984034, 1274034766, 4202757192, 3726384115, 2874517536, 2181777558, 1855625111, 84326218, 1212897554, 3944529468, 3897172966, 835329053, 4273554269, 3638210352, 160625925, 2111196708, 1443741234, 1545595123, 3262495694, 489403727, 933265494, 997962797, 326463748, 3478608625, 366381584, 4101334431, 1555394123, 2101623282, 557959115, 1389729457, 2291727713, 3057866705, 3489950604, 571235157, 503332946, 1113028444, 226949961, 2696392541, 1418900193, 3147650645, 2190449840, 3966716949, 76411004, 3364016010, 935679678, 887801035, 1190269588, 2025129498, 3472183801, 726147066, 3504541968, 34024996, 2732133534, 1138042318, 982119965, 2447368875, 4029735998, 2500783714, 2010895525, 3556393331, 4031974344, 2409416093, 1948407119, 538392709, 1458183796, 3228860155, 4093692167, 738631969, 3384105253, 885682120, 1720299680, 2637341742, 2954247458, 1610144414, 1160654178, 2703991679, 242713444, 2807620956, 1550031619, 2678834918, 1904114516, 3611731953, 434520955, 528939771, 835461895, 4275961379, 1582281814, 4021706256, 2059229569, 1393001106, 584394037, 2018448082, 3537754369, 2500168238, 1348722269, 4142431118, 4129484285, 1476390477, 3986610620, 3718337933, 2453015389, 1502152630, 1947467201, 2278359839, 4115312330, 498115618, 450331554, 1127899194, 3454012493, 572468132, 1023630051, 1113371396, 2741675054, 1571732967, 2089991915, 2837438203, 3753153795, 2446347275, 164226138, 1136744703, 1677858691, 2414084208, 966647721, 3944881207, 4165988913, 2408395800, 395177554, 2049949666, 2552080101, 4056177362, 626146887, 3431214495, 2112627186, 2155736124, 269739289, 2681391183, 3639823233, 294551290, 1055966336, 823560905, 3167265134, 3088516229, 68784384, 3272686064, 1919408954, 941927100, 1247107182, 3745140403, 1213900213, 66118748, 4212719672, 974640310, 1978553294, 175225078, 2125039343, 2960009573, 94604158, 711217179, 3673389288, 4236773093, 2054874225, 2456876026, 286876650, 2177986941, 198786172]
theorem marks_ok : okFrom marks = true := by decide +kernel
theorem not_back {d : Nat} (h0 : 0 < d) (h1 : d < 16001) : it d 1#32 ≠ 1#32 := by
  have h : okFrom ((1#32).toNat :: marks.tail) = true := marks_ok
  exact okFrom_ne marks.tail 1#32 h d h0 (by have : marks.tail.length = 801 := by decide +kernel
                                             omega)
/-! ### sums -/
/-- a register behind a byte -/
def byte (s : BitVec 32) (c : BitVec 8) : BitVec 32 := it 8 (s ^^^ c.setWidth 32)
/-- a register behind bytes -/
def reg : BitVec 32 → List (BitVec 8) → BitVec 32
  | s, [] => s
  | s, c :: r => reg (byte s c) r
def full : BitVec 32 := 0xFFFFFFFF#32
/-- the sum of bytes -/
def crc (l : List (BitVec 8)) : BitVec 32 := reg full l ^^^ full
theorem reg_append (s : BitVec 32) (l r : List (BitVec 8)) : reg s (l ++ r) = reg (reg s l) r := by
  induction l generalizing s with
  | nil => rfl
  | cons c l ih => exact ih _
theorem byte_xor (s t : BitVec 32) (c d : BitVec 8) : byte (s ^^^ t) (c ^^^ d) = byte s c ^^^ byte t d := by
  unfold byte
  rw [← it_xor]
  congr 1
  have : (c ^^^ d).setWidth 32 = c.setWidth 32 ^^^ d.setWidth 32 := BitVec.setWidth_xor
  rw [this, BitVec.xor_assoc, BitVec.xor_assoc, ← BitVec.xor_assoc t, BitVec.xor_comm t, BitVec.xor_assoc]
theorem reg_shift (s t : BitVec 32) (l : List (BitVec 8)) : reg (s ^^^ t) l = reg s l ^^^ it (8 * l.length) t := by
  induction l generalizing s t with
  | nil => rfl
  | cons c l ih =>
    have h := byte_xor s t c 0#8
    rw [BitVec.xor_zero] at h
    rw [reg, h, ih, reg, List.length_cons, Nat.mul_succ, Nat.add_comm, it_add]
    congr 2
    unfold byte
    congr 1
    simp
theorem reg_xor (s t : BitVec 32) (l r : List (BitVec 8)) (h : l.length = r.length) : reg (s ^^^ t) (List.zipWith (· ^^^ ·) l r) = reg s l ^^^ reg t r := by
  induction l generalizing s t r with
  | nil => cases r with
    | nil => rfl
    | cons _ _ => simp at h
  | cons c l ih => cases r with
    | nil => simp at h
    | cons d r => rw [List.zipWith_cons_cons, reg, byte_xor, ih _ _ _ (by simpa using h)]; rfl
theorem xor_swap (a b c : BitVec 32) : a ^^^ b ^^^ c = a ^^^ c ^^^ b := by rw [BitVec.xor_assoc, BitVec.xor_comm b, BitVec.xor_assoc]
/-- two parts joined -/
theorem crc_append (l r : List (BitVec 8)) : crc (l ++ r) = it (8 * r.length) (crc l) ^^^ crc r := by
  unfold crc
  rw [reg_append]
  have e : reg full l = full ^^^ (reg full l ^^^ full) := by rw [BitVec.xor_comm (reg full l), ← BitVec.xor_assoc, BitVec.xor_self, BitVec.zero_xor]
  rw [e, reg_shift, ← e]
  rw [BitVec.xor_comm (reg full r), BitVec.xor_assoc]
theorem crc_nil : crc [] = 0#32 := by unfold crc reg; simp
/-- three lists -/
theorem crc_three (a b c : List (BitVec 8)) (h1 : a.length = b.length) (h2 : a.length = c.length) :
    crc (List.zipWith (· ^^^ ·) (List.zipWith (· ^^^ ·) a b) c) = crc a ^^^ crc b ^^^ crc c := by
  unfold crc
  have e : full = (full ^^^ full) ^^^ full := by simp
  have h : reg full (List.zipWith (· ^^^ ·) (List.zipWith (· ^^^ ·) a b) c) = (reg full a ^^^ reg full b) ^^^ reg full c := by
    conv => lhs; rw [e]
    rw [reg_xor _ _ _ _ (by rw [List.length_zipWith, ← h1, Nat.min_self]; exact h2), reg_xor _ _ _ _ h1]
  rw [h]
  generalize reg full a = x
  generalize reg full b = y
  generalize reg full c = z
  rw [xor_swap x full (y ^^^ full)]
  rw [← BitVec.xor_assoc x y full, BitVec.xor_assoc (x ^^^ y) full full, BitVec.xor_self, BitVec.xor_zero, ← BitVec.xor_assoc]
/-- what a turned bit changes -/
def fl (n k : Nat) : BitVec 32 := it (8 * (n - k / 8)) (1#32 <<< (k % 8))
/-- a bit of bytes turned -/
def flip (l : List (BitVec 8)) (k : Nat) : List (BitVec 8) := l.set (k / 8) ((l[k / 8]?.getD 0#8) ^^^ (1#8 <<< (k % 8)))
theorem flip_length (l : List (BitVec 8)) (k : Nat) : (flip l k).length = l.length := by simp [flip]
theorem shl_wide (j : Nat) (hj : j < 8) : (1#8 <<< j).setWidth 32 = 1#32 <<< j := by
  have h : (List.range 8).all (fun j => (1#8 <<< j).setWidth 32 == 1#32 <<< j) = true := by decide +kernel
  exact eq_of_beq (List.all_eq_true.1 h j (List.mem_range.2 hj))
theorem crc_flip (l : List (BitVec 8)) (k : Nat) (hk : k < 8 * l.length) : crc (flip l k) = crc l ^^^ fl l.length k := by
  have hq : k / 8 < l.length := by omega
  have hl : l = l.take (k / 8) ++ l[k / 8] :: l.drop (k / 8 + 1) := by rw [← List.drop_eq_getElem_cons hq, List.take_append_drop]
  have hf : flip l k = l.take (k / 8) ++ (l[k / 8] ^^^ (1#8 <<< (k % 8))) :: l.drop (k / 8 + 1) := by
    unfold flip
    rw [List.getElem?_eq_getElem hq, Option.getD_some, List.set_eq_take_append_cons_drop, if_pos hq]
  have hd : (l.drop (k / 8 + 1)).length = l.length - k / 8 - 1 := by rw [List.length_drop]; omega
  have hr : reg full (flip l k) = reg full l ^^^ fl l.length k := by
    conv => rhs; arg 1; rw [hl]
    rw [hf, reg_append, reg_append, reg, reg]
    generalize reg full (l.take (k / 8)) = s
    have hb := byte_xor s 0#32 l[k / 8] (1#8 <<< (k % 8))
    rw [BitVec.xor_zero] at hb
    rw [hb, reg_shift, hd]
    congr 1
    unfold byte fl
    rw [BitVec.zero_xor, shl_wide _ (Nat.mod_lt _ (by omega)), ← it_add]
    congr 1
    omega
  unfold crc
  rw [hr, xor_swap]
theorem fl_eq (n k : Nat) (hk : k < 8 * n) : fl n k = it (8 * n - k) 1#32 := by
  unfold fl
  have h := it_down (k % 8) (Nat.lt_of_lt_of_le (Nat.mod_lt _ (by omega)) (by omega))
  rw [show 8 * (n - k / 8) = k % 8 + (8 * n - k) by omega, it_add, h]
theorem fl_shift (n at' i : Nat) (hi : i < 32) (hk : at' + i < 8 * n) : fl n (at' + i) = it (8 * n - at') (1#32 <<< i) := by
  rw [fl_eq _ _ hk, show 8 * n - at' = i + (8 * n - (at' + i)) by omega, it_add, it_down i hi]
theorem fl_ne {n i j : Nat} (hn : n ≤ 2000) (hi : i < 8 * n) (hj : j < 8 * n) (h : i ≠ j) : fl n i ≠ fl n j := by
  intro e
  rw [fl_eq _ _ hi, fl_eq _ _ hj] at e
  rcases Nat.lt_or_gt_of_ne h with h | h
  · rw [show 8 * n - i = (j - i) + (8 * n - j) by omega, it_add] at e
    exact not_back (by omega) (by omega) (it_inj _ e)
  · rw [show 8 * n - j = (i - j) + (8 * n - i) by omega, it_add] at e
    exact not_back (by omega) (by omega) (it_inj _ e.symm)
end Go.Proofs.YtmfkfheakahckaaDoor.Crc
