import Derived.Test.YtddcnopjjihmcaaGreatG0
import Derived.Test.YtddcnopjjihmcaaGreatRows
import Derived.KernelRfl
namespace Go.Ev.G
open Go.Ev
set_option maxRecDepth 100000
def f127 : IFunc := ⟨2, [.t p4], (.seq (.ops [⟨d2,.a (.box 3 t0),none⟩,
⟨d3,.a (.box 3 t1),none⟩,
⟨d4,.p (.mv (.c .nilf)),none⟩])
 (.seq (.ops [⟨d5,.p (.mkfn p195 [] [t3,t2]),none⟩,
⟨d4,.p (.mv t5),none⟩])
 .ret))⟩
theorem c127 : Go.Ev.EntOk Go.Proofs.Tryz.prog (127, f127) := ⟨Go.Proofs.Tryz.f127, Go.Proofs.Tryz.func127, by kernel_rfl, Go.Proofs.Tryz.call127⟩
def f128 : IFunc := ⟨2, [.t p4,.t p5], (.seq (.ops [⟨d4,.p (.mv k0),none⟩,
⟨d5,.p (.mv (.c .nili)),none⟩])
 (.seq (.ops [⟨d6,.p (.mv t0),none⟩,
⟨d7,.call p196 [t6],none⟩])
 (.seq (.ops [⟨d8,.p (.mv t0),none⟩,
⟨d9,.p (.mv t0),none⟩,
⟨d10,.p (.nilck t9),none⟩,
⟨d11,.p (.faddr 1 t10),none⟩,
⟨d12,.r (.ldS t11),none⟩,
⟨d13,.p (.mv t1),none⟩,
⟨d14,.w (.app 5 1 1 t12 t13),none⟩,
⟨d15,.p (.nilck t8),none⟩,
⟨d16,.p (.faddr 1 t15),none⟩,
⟨none,.w (.st 1 t16 t14),none⟩])
 (.seq (.ops [⟨d17,.p (.mv t1),none⟩,
⟨d18,.p (.lenSl t17),none⟩,
⟨d4,.p (.mv t18),none⟩,
⟨d5,.p (.mv (.c .nili)),none⟩])
 .ret))))⟩
theorem c128 : Go.Ev.EntOk Go.Proofs.Tryz.prog (128, f128) := ⟨Go.Proofs.Tryz.f128, Go.Proofs.Tryz.func128, by kernel_rfl, Go.Proofs.Tryz.call128⟩
def f129 : IFunc := ⟨1, [.t p2], (.seq (.ops [⟨d2,.p (.mv (.c (.str []))),none⟩])
 (.seq (.reg [⟨[0],⟨d3,.p (.mv t0),none⟩,0,0⟩,
⟨[1],⟨d4,.p (.nilck t3),none⟩,0,0⟩,
⟨[2],⟨d5,.p (.faddr 1 t4),none⟩,0,0⟩,
⟨[3],⟨d6,.r (.ldS t5),none⟩,0,0⟩,
⟨[4],⟨d7,.r (.sdata t6),none⟩,0,0⟩,
⟨[5],⟨d8,.p (.mv t0),none⟩,0,0⟩,
⟨[6],⟨d9,.p (.nilck t8),none⟩,0,0⟩,
⟨[7],⟨d10,.p (.faddr 1 t9),none⟩,0,0⟩,
⟨[8],⟨d11,.r (.ldS t10),none⟩,0,0⟩,
⟨[9],⟨d12,.p (.lenSl t11),none⟩,0,0⟩,
⟨[10],⟨d13,.w (.ustr 5 t7 t12),none⟩,0,0⟩,
⟨[11],⟨d2,.p (.mv t13),none⟩,1,1⟩])
 .ret))⟩
theorem c129 : Go.Ev.EntOk Go.Proofs.Tryz.prog (129, f129) := ⟨Go.Proofs.Tryz.f129, Go.Proofs.Tryz.func129, by kernel_rfl, Go.Proofs.Tryz.call129⟩
def f130 : IFunc := ⟨1, [.t p2], (.seq (.ops [⟨d2,.p (.mv k0),none⟩])
 (.seq (.seq (.ops [⟨d3,.p (.mv t0),none⟩])
 (.block 0 (.seq (.seq (.ops [⟨d5,.p (.bin .eql t3 k0),none⟩,
⟨d4,.p (.mv t5),none⟩])
 (.cond t4 .skip
 (.ops [⟨d6,.p (.bin .eql t3 k11),none⟩,
⟨d4,.p (.mv t6),none⟩])))
 (.cond t4 (.seq (.ops [⟨d7,.p (.mv t0),none⟩,
⟨d2,.p (.mv t7),none⟩])
 .ret)
 (.seq (.seq (.ops [⟨d9,.p (.bin .eql t3 k3),none⟩,
⟨d8,.p (.mv t9),none⟩])
 (.cond t8 .skip
 (.ops [⟨d10,.p (.bin .eql t3 k4),none⟩,
⟨d8,.p (.mv t10),none⟩])))
 (.cond t8 (.seq (.ops [⟨d2,.p (.mv k26),none⟩])
 .ret)
 (.seq (.seq (.ops [⟨d12,.p (.bin .eql t3 k6),none⟩,
⟨d11,.p (.mv t12),none⟩])
 (.cond t11 .skip
 (.ops [⟨d13,.p (.bin .eql t3 k7),none⟩,
⟨d11,.p (.mv t13),none⟩])))
 (.cond t11 (.seq (.ops [⟨d2,.p (.mv k27),none⟩])
 .ret)
 .skip))))))))
 (.seq (.ops [⟨d2,.p (.mv k31),none⟩])
 .ret)))⟩
theorem c130 : Go.Ev.EntOk Go.Proofs.Tryz.prog (130, f130) := ⟨Go.Proofs.Tryz.f130, Go.Proofs.Tryz.func130, by kernel_rfl, Go.Proofs.Tryz.call130⟩
def f131 : IFunc := ⟨5, [], (.seq (.ops [⟨d6,.a (.box 36 t1),none⟩])
 (.reg [⟨[0],⟨d10,.p (.mv t0),none⟩,0,0⟩,
⟨[1],⟨d11,.p (.nilck t10),none⟩,0,0⟩,
⟨[2],⟨d12,.p (.faddr 1 t11),none⟩,0,0⟩,
⟨[3],⟨d13,.r (.ldS t12),none⟩,0,0⟩,
⟨[4],⟨d14,.p (.faddr 0 t6),none⟩,0,0⟩,
⟨[5],⟨d15,.r (.ldS t14),none⟩,0,0⟩,
⟨[6],⟨d16,.p (.mv t0),none⟩,0,0⟩,
⟨[7],⟨d17,.p (.nilck t16),none⟩,0,0⟩,
⟨[8],⟨d18,.p (.faddr 2 t17),none⟩,0,0⟩,
⟨[9],⟨d19,.r (.ldS t18),none⟩,0,0⟩,
⟨[10],⟨d20,.p (.mv t2),none⟩,0,0⟩,
⟨[11],⟨d21,.p (.build [(.int .i64 (.ofNat 0)),(.int .i64 (.ofNat 0))] [(0, 1, t19),(1, 1, t20)]),none⟩,0,0⟩,
⟨[12],⟨d22,.p (.mv t3),none⟩,0,0⟩,
⟨[13],⟨d23,.p (.mv t4),none⟩,0,0⟩,
⟨[14],⟨d24,.p (.build [(.int .i64 (.ofNat 0)),(.int .i64 (.ofNat 0)),(.int .i64 (.ofNat 0)),(.int .i64 (.ofNat 0)),(.int .i64 (.ofNat 0)),(.int .i64 (.ofNat 0)),(.int .i64 (.ofNat 0)),(.int .i64 (.ofNat 0)),(.int .i64 (.ofNat 0)),.nils,(.int .i64 (.ofNat 0)),.nils,(.str []),(.int .i64 (.ofNat 0)),(.int .i64 (.ofNat 0)),(.int .i64 (.ofNat 0)),(.int .i64 (.ofNat 0)),(.int .i64 (.ofNat 0)),(.bool false),(.bool false)] [(0, 1, k15),(1, 2, t21),(5, 1, t22),(12, 1, t23)]),none⟩,0,0⟩,
⟨[15],⟨d25,.call p17 [t13,t15,t24,k0],none⟩,0,0⟩]))⟩
theorem c131 : Go.Ev.EntOk Go.Proofs.Tryz.prog (131, f131) := ⟨Go.Proofs.Tryz.f131, Go.Proofs.Tryz.func131, by kernel_rfl, Go.Proofs.Tryz.call131⟩
def f132 : IFunc := ⟨1, [.t p2], (.seq (.ops [⟨d2,.p (.mv (.c (.str []))),none⟩])
 (.seq (.ops [⟨d3,.p (.mv (.c .nils)),none⟩])
 (.seq (.seq (.ops [⟨d7,.p (.mv t0),none⟩,
⟨d8,.p (.lenSl t7),none⟩,
⟨d9,.p (.mv k0),none⟩])
 (.block 0 (.loop (.seq (.ops [⟨d10,.p (.bin .lss t9 t8),none⟩])
 (.seq (.cond t10 .skip
 (.exit 0))
 (.seq (.block 1 (.seq (.ops [⟨d11,.p (.iaddrS 1 t7 t9),none⟩,
⟨d12,.r (.ldS t11),none⟩,
⟨d5,.p (.mv t12),none⟩])
 (.seq (.ops [⟨d13,.p (.mv k0),none⟩])
 (.block 2 (.loop (.seq (.ops [⟨d14,.p (.bin .lss t13 k8),none⟩])
 (.seq (.cond t14 .skip
 (.exit 2))
 (.seq (.block 3 (.seq (.ops [⟨d15,.p (.mv t13),none⟩,
⟨d6,.p (.mv t15),none⟩])
 (.ops [⟨d16,.p (.mv t3),none⟩,
⟨d17,.p (.mv t5),none⟩,
⟨d18,.p (.mv t6),none⟩,
⟨d19,.p (.bin .mul k8 t18),none⟩,
⟨d20,.p (.bin .shr t17 t19),none⟩,
⟨d21,.p (.conv .u8 t20),none⟩,
⟨d22,.a (.bslice 5 1 1 [(.int .u8 (.ofNat 0))] [(0, 1, t21)]),none⟩,
⟨d23,.w (.app 5 1 1 t16 t22),none⟩,
⟨d3,.p (.mv t23),none⟩])))
 (.ops [⟨d24,.p (.bin .add t13 k1),none⟩,
⟨d13,.p (.mv t24),none⟩])))))))))
 (.ops [⟨d25,.p (.bin .add t9 k1),none⟩,
⟨d9,.p (.mv t25),none⟩])))))))
 (.seq (.ops [⟨d26,.p (.mv t3),none⟩,
⟨d27,.r (.b2s t26),none⟩,
⟨d2,.p (.mv t27),none⟩])
 .ret))))⟩
theorem c132 : Go.Ev.EntOk Go.Proofs.Tryz.prog (132, f132) := ⟨Go.Proofs.Tryz.f132, Go.Proofs.Tryz.func132, by kernel_rfl, Go.Proofs.Tryz.call132⟩
def f137 : IFunc := ⟨2, [.t p4], (.seq (.ops [⟨d2,.a (.box 202 t0),none⟩,
⟨d3,.a (.box 9 t1),none⟩,
⟨d4,.p (.mv (.c .nilf)),none⟩])
 (.seq (.ops [⟨d5,.p (.mkfn p197 [] [t3,t2]),none⟩,
⟨d4,.p (.mv t5),none⟩])
 .ret))⟩
theorem c137 : Go.Ev.EntOk Go.Proofs.Tryz.prog (137, f137) := ⟨Go.Proofs.Tryz.f137, Go.Proofs.Tryz.func137, by kernel_rfl, Go.Proofs.Tryz.call137⟩
def f138 : IFunc := ⟨1, [.t p2], (.seq (.ops [⟨d2,.p (.mv (.c (.bool false))),none⟩])
 (.seq (.ops [⟨d3,.p (.mv t0),none⟩,
⟨d4,.p (.bin .geq t3 k1),none⟩,
⟨d5,.p (.mv t4),none⟩,
⟨d6,.p (.mv t0),(some (p5, true))⟩,
⟨d7,.p (.bin .leq t6 (.c (.int .i64 (.ofNat 2305843009213693951)))),(some (p5, true))⟩,
⟨d8,.p (.pick t5 t7 (.c (.bool false))),none⟩,
⟨d2,.p (.mv t8),none⟩])
 .ret))⟩
theorem c138 : Go.Ev.EntOk Go.Proofs.Tryz.prog (138, f138) := ⟨Go.Proofs.Tryz.f138, Go.Proofs.Tryz.func138, by kernel_rfl, Go.Proofs.Tryz.call138⟩
def f139 : IFunc := ⟨2, [.t p4], (.seq (.ops [⟨d3,.a (.box 49 t1),none⟩,
⟨d4,.p (.mv (.c .nilp)),none⟩])
 (.seq (.seq (.ops [⟨d6,.p (.mv t0),none⟩,
⟨d7,.p (.bin .lss t6 k1),none⟩,
⟨d8,.p (.mv t7),none⟩,
⟨d9,.p (.mv t0),(some (p8, false))⟩,
⟨d10,.p (.bin .gtr t9 (.c (.int .i64 (.ofNat 2305843009213693951)))),(some (p8, false))⟩,
⟨d11,.p (.pick t8 (.c (.bool true)) t10),none⟩,
⟨d12,.p (.mv t11),none⟩,
⟨d13,.r (.ldA 2 t3),(some (p12, false))⟩,
⟨d14,.call p155 [t13],(some (p12, false))⟩,
⟨d15,.p (.not t14),(some (p12, false))⟩,
⟨d16,.p (.pick t12 (.c (.bool true)) t15),none⟩])
 (.cond t16 (.seq (.ops [⟨d4,.p (.mv (.c .nilp)),none⟩])
 .ret)
 .skip))
 (.seq (.ops [⟨d17,.p (.mv t0),none⟩,
⟨d18,.r (.ldA 2 t3),none⟩,
⟨d19,.call p122 [t18],none⟩,
⟨d20,.p (.build [(.int .i64 (.ofNat 0)),(.int .i64 (.ofNat 0)),(.int .i64 (.ofNat 0)),(.int .i64 (.ofNat 0)),(.int .i64 (.ofNat 0)),(.int .i64 (.ofNat 0)),.nils] [(0, 1, t17),(1, 1, k1),(2, 1, (.c (.int .i64 (.ofNat 1099511627776)))),(4, 1, k1),(5, 2, t19)]),none⟩,
⟨d21,.p (.build [(.int .i64 (.ofNat 0)),(.int .i64 (.ofNat 0)),(.int .i64 (.ofNat 0)),(.int .i64 (.ofNat 0)),(.int .i64 (.ofNat 0)),(.int .i64 (.ofNat 0)),.nils,.nils] [(0, 7, t20)]),none⟩,
⟨d22,.a (.box 245 t21),none⟩,
⟨d5,.p (.mv t22),none⟩])
 (.seq (.ops [⟨d23,.a .mkmap,none⟩,
⟨d24,.p (.mv t0),none⟩,
⟨d25,.p (.mv t5),none⟩,
⟨none,.ins t23 t24 t25,none⟩,
⟨d26,.p (.mv t23),none⟩,
⟨d27,.p (.mv t0),none⟩,
⟨d28,.p (.build [.nilm,(.int .i64 (.ofNat 0))] [(0, 1, t26),(1, 1, t27)]),none⟩,
⟨d29,.a (.box 314 t28),none⟩,
⟨d4,.p (.mv t29),none⟩])
 .ret))))⟩
theorem c139 : Go.Ev.EntOk Go.Proofs.Tryz.prog (139, f139) := ⟨Go.Proofs.Tryz.f139, Go.Proofs.Tryz.func139, by kernel_rfl, Go.Proofs.Tryz.call139⟩
def f140 : IFunc := ⟨1, [.cA p2 2], (.seq (.ops [⟨d2,.a (.alloc 49 [(.int .i64 (.ofNat 0)),.nils]),none⟩])
 (.seq (.ops [⟨d3,.p (.mv t0),none⟩,
⟨d4,.p (.build [(.int .i64 (.ofNat 0)),.nils] [(0, 1, t3)]),none⟩,
⟨none,.w (.st 2 t2 t4),none⟩])
 .ret))⟩
theorem c140 : Go.Ev.EntOk Go.Proofs.Tryz.prog (140, f140) := ⟨Go.Proofs.Tryz.f140, Go.Proofs.Tryz.func140, by kernel_rfl, Go.Proofs.Tryz.call140⟩
def f141 : IFunc := ⟨0, [.t p0], (.seq (.ops [⟨d0,.p (.mv (.c .nilp)),none⟩])
 (.seq (.ops [⟨d1,.a .mkmap,none⟩,
⟨d2,.a .mkmap,none⟩,
⟨d3,.p (.build [(.int .i64 (.ofNat 0)),.nilm,.nilm] [(1, 1, t1),(2, 1, t2)]),none⟩,
⟨d4,.a (.box 253 t3),none⟩,
⟨d0,.p (.mv t4),none⟩])
 .ret))⟩
theorem c141 : Go.Ev.EntOk Go.Proofs.Tryz.prog (141, f141) := ⟨Go.Proofs.Tryz.f141, Go.Proofs.Tryz.func141, by kernel_rfl, Go.Proofs.Tryz.call141⟩
def f142 : IFunc := ⟨6, [.t p12], (.seq (.ops [⟨d11,.a (.box 49 t5),none⟩,
⟨d12,.p (.mv k0),none⟩])
 (.seq (.ops [⟨d17,.p (.mv t0),none⟩,
⟨d18,.p (.mv t1),none⟩,
⟨d19,.call p125 [t17,t18],none⟩,
⟨d16,.p (.mv t19),none⟩,
⟨d20,.p (.ext t16 0),none⟩,
⟨d21,.p (.ext t16 1),none⟩,
⟨d13,.p (.mv t20),none⟩,
⟨d14,.p (.mv t21),none⟩])
 (.seq (.block 0 (.seq (.ops [⟨d23,.p (.mv t14),none⟩,
⟨d24,.p (.bin .neq t23 k0),none⟩,
⟨d22,.p (.mv t24),none⟩])
 (.cond t22 (.seq (.ops [⟨d25,.p (.mv t14),none⟩,
⟨d12,.p (.mv t25),none⟩])
 .ret)
 (.seq (.ops [⟨d27,.p (.mv t3),none⟩,
⟨d28,.p (.bin .lss t27 k1),none⟩,
⟨d29,.p (.mv t28),none⟩,
⟨d30,.p (.mv t3),(some (p29, false))⟩,
⟨d31,.p (.bin .gtr t30 k6),(some (p29, false))⟩,
⟨d32,.p (.pick t29 (.c (.bool true)) t31),none⟩,
⟨d26,.p (.mv t32),none⟩])
 (.cond t26 (.seq (.ops [⟨d12,.p (.mv k5),none⟩])
 .ret)
 (.seq (.ops [⟨d34,.p (.mv t4),none⟩,
⟨d35,.p (.bin .lss t34 k1),none⟩,
⟨d36,.p (.mv t35),none⟩,
⟨d37,.p (.mv t4),(some (p36, false))⟩,
⟨d38,.p (.bin .gtr t37 (.c (.int .i64 (.ofNat 1099511627776)))),(some (p36, false))⟩,
⟨d39,.p (.pick t36 (.c (.bool true)) t38),none⟩,
⟨d40,.p (.mv t39),none⟩,
⟨d41,.p (.mv t3),(some (p40, false))⟩,
⟨d42,.r (.ldA 2 t11),(some (p40, false))⟩,
⟨d43,.call p198 [t41,t42],(some (p40, false))⟩,
⟨d44,.p (.not t43),(some (p40, false))⟩,
⟨d45,.p (.pick t40 (.c (.bool true)) t44),none⟩,
⟨d33,.p (.mv t45),none⟩])
 (.cond t33 (.seq (.ops [⟨d12,.p (.mv k1),none⟩])
 .ret)
 (.seq (.ops [⟨d47,.p (.mv t2),none⟩,
⟨d48,.p (.bin .lss t47 k1),none⟩,
⟨d49,.p (.mv t48),none⟩,
⟨d50,.p (.mv t2),(some (p49, false))⟩,
⟨d51,.p (.bin .gtr t50 (.c (.int .i64 (.ofNat 2305843009213693951)))),(some (p49, false))⟩,
⟨d52,.p (.pick t49 (.c (.bool true)) t51),none⟩,
⟨d53,.p (.mv t52),none⟩,
⟨d54,.p (.mv t0),(some (p53, false))⟩,
⟨d55,.p (.mv t2),(some (p53, false))⟩,
⟨d56,.call p121 [t54,t55],(some (p53, false))⟩,
⟨d57,.p (.eqp true t56 (.c .nilp)),(some (p53, false))⟩,
⟨d58,.p (.pick t53 (.c (.bool true)) t57),none⟩,
⟨d46,.p (.mv t58),none⟩])
 (.cond t46 (.seq (.ops [⟨d12,.p (.mv k8),none⟩])
 .ret)
 (.seq (.ops [⟨d60,.p (.mv t0),none⟩,
⟨d61,.p (.nilck t60),none⟩,
⟨d62,.p (.faddr 0 t61),none⟩,
⟨d63,.r (.ldS t62),none⟩,
⟨d64,.r (.lenM t63),none⟩,
⟨d65,.p (.bin .geq t64 (.c (.int .i64 (.ofNat 4096)))),none⟩,
⟨d59,.p (.mv t65),none⟩])
 (.cond t59 (.seq (.ops [⟨d12,.p (.mv k7),none⟩])
 .ret)
 (.seq (.ops [⟨d67,.p (.mv t4),none⟩,
⟨d68,.p (.mv t13),none⟩,
⟨d69,.call p165 [t68],none⟩,
⟨d70,.p (.bin .gtr t67 t69),none⟩,
⟨d66,.p (.mv t70),none⟩])
 (.cond t66 (.seq (.ops [⟨d12,.p (.mv k6),none⟩])
 .ret)
 .skip)))))))))))))
 (.seq (.ops [⟨d71,.p (.mv t2),none⟩,
⟨d72,.p (.mv t3),none⟩,
⟨d73,.p (.mv t4),none⟩,
⟨d74,.r (.ldA 2 t11),none⟩,
⟨d75,.call p122 [t74],none⟩,
⟨d76,.p (.build [(.int .i64 (.ofNat 0)),(.int .i64 (.ofNat 0)),(.int .i64 (.ofNat 0)),(.int .i64 (.ofNat 0)),(.int .i64 (.ofNat 0)),(.int .i64 (.ofNat 0)),.nils] [(0, 1, t71),(1, 1, t72),(2, 1, t73),(5, 2, t75)]),none⟩,
⟨d77,.p (.build [(.int .i64 (.ofNat 0)),(.int .i64 (.ofNat 0)),(.int .i64 (.ofNat 0)),(.int .i64 (.ofNat 0)),(.int .i64 (.ofNat 0)),(.int .i64 (.ofNat 0)),.nils,.nils] [(0, 7, t76)]),none⟩,
⟨d78,.a (.box 245 t77),none⟩,
⟨d15,.p (.mv t78),none⟩])
 (.seq (.ops [⟨d79,.p (.mv t0),none⟩,
⟨d80,.p (.nilck t79),none⟩,
⟨d81,.p (.faddr 0 t80),none⟩,
⟨d82,.r (.ldS t81),none⟩,
⟨d83,.p (.mv t2),none⟩,
⟨d84,.p (.mv t15),none⟩,
⟨none,.w (.mupd t82 t83 t84),none⟩])
 (.seq (.ops [⟨d85,.p (.mv t13),none⟩,
⟨d86,.p (.mv t15),none⟩,
⟨d87,.call p166 [t85,t86],none⟩])
 (.seq (.ops [⟨d12,.p (.mv k0),none⟩])
 .ret)))))))⟩
theorem c142 : Go.Ev.EntOk Go.Proofs.Tryz.prog (142, f142) := ⟨Go.Proofs.Tryz.f142, Go.Proofs.Tryz.func142, by kernel_rfl, Go.Proofs.Tryz.call142⟩
def f143 : IFunc := ⟨5, [.t p10], (.seq (.ops [⟨d6,.a (.box 36 t1),none⟩,
⟨d8,.a (.box 49 t3),none⟩,
⟨d10,.p (.mv k0),none⟩])
 (.seq (.seq (.ops [⟨d16,.p (.mv t0),none⟩,
⟨d17,.r (.ldA 2 t6),none⟩,
⟨d18,.p (.mv t2),none⟩,
⟨d19,.p (.build [(.int .i64 (.ofNat 0)),(.int .i64 (.ofNat 0))] [(0, 1, t18)]),none⟩,
⟨d20,.r (.ldA 2 t8),none⟩,
⟨d21,.p (.mv t4),none⟩,
⟨d22,.p (.build [(.int .i64 (.ofNat 0)),(.int .i64 (.ofNat 0)),(.int .i64 (.ofNat 0)),(.int .i64 (.ofNat 0)),(.int .i64 (.ofNat 0)),(.int .i64 (.ofNat 0)),(.int .i64 (.ofNat 0)),(.int .i64 (.ofNat 0)),(.int .i64 (.ofNat 0)),.nils,(.int .i64 (.ofNat 0)),.nils,(.str []),(.int .i64 (.ofNat 0)),(.int .i64 (.ofNat 0)),(.int .i64 (.ofNat 0)),(.int .i64 (.ofNat 0)),(.int .i64 (.ofNat 0)),(.bool false),(.bool false)] [(0, 1, k4),(1, 2, t19),(8, 2, t20),(5, 1, t21)]),none⟩,
⟨d23,.p (.faddr 1 t6),none⟩,
⟨d24,.r (.ldS t23),none⟩,
⟨d25,.call p199 [t16,t17,t22,t24],none⟩,
⟨d15,.p (.mv t25),none⟩,
⟨d26,.p (.ext t15 0),none⟩,
⟨d27,.p (.ext t15 1),none⟩,
⟨d11,.a (.alloc 52 [(.int .i64 (.ofNat 0)),(.str []),(.int .i64 (.ofNat 0)),.nils,(.int .i64 (.ofNat 0)),.nils,.nils,.nils]),none⟩,
⟨none,.w (.st 8 t11 t26),none⟩,
⟨d12,.p (.mv t27),none⟩])
 (.seq (.ops [⟨d28,.p (.mv t12),none⟩,
⟨d29,.p (.bin .neq t28 k0),none⟩])
 (.cond t29 (.seq (.ops [⟨d30,.p (.mv t12),none⟩,
⟨d10,.p (.mv t30),none⟩])
 .ret)
 .skip)))
 (.seq (.ops [⟨d32,.p (.mv t0),none⟩,
⟨d33,.r (.ldA 2 t6),none⟩,
⟨d34,.p (.faddr 1 t6),none⟩,
⟨d35,.r (.ldS t34),none⟩,
⟨d36,.p (.build [(.int .i64 (.ofNat 0)),(.int .i64 (.ofNat 0))] [(0, 1, t35)]),none⟩,
⟨d37,.r (.ldA 2 t8),none⟩,
⟨d38,.p (.build [(.int .i64 (.ofNat 0)),(.int .i64 (.ofNat 0)),(.int .i64 (.ofNat 0)),(.int .i64 (.ofNat 0)),(.int .i64 (.ofNat 0)),(.int .i64 (.ofNat 0)),(.int .i64 (.ofNat 0)),(.int .i64 (.ofNat 0)),(.int .i64 (.ofNat 0)),.nils,(.int .i64 (.ofNat 0)),.nils,(.str []),(.int .i64 (.ofNat 0)),(.int .i64 (.ofNat 0)),(.int .i64 (.ofNat 0)),(.int .i64 (.ofNat 0)),(.int .i64 (.ofNat 0)),(.bool false),(.bool false)] [(0, 1, k5),(1, 2, t36),(8, 2, t37),(5, 1, (.c (.int .i64 (.ofNat 4096))))]),none⟩,
⟨d39,.p (.faddr 1 t6),none⟩,
⟨d40,.r (.ldS t39),none⟩,
⟨d41,.p (.bin .add t40 k1),none⟩,
⟨d42,.call p199 [t32,t33,t38,t41],none⟩,
⟨d31,.p (.mv t42),none⟩,
⟨d43,.p (.ext t31 0),none⟩,
⟨d44,.p (.ext t31 1),none⟩,
⟨d13,.a (.alloc 52 [(.int .i64 (.ofNat 0)),(.str []),(.int .i64 (.ofNat 0)),.nils,(.int .i64 (.ofNat 0)),.nils,.nils,.nils]),none⟩,
⟨none,.w (.st 8 t13 t43),none⟩,
⟨d14,.p (.mv t44),none⟩])
 (.seq (.seq (.ops [⟨d45,.p (.mv t14),none⟩,
⟨d46,.p (.bin .neq t45 k0),none⟩])
 (.cond t46 (.ops [⟨d47,.p (.mv t0),none⟩,
⟨d48,.r (.ldA 2 t6),none⟩,
⟨d49,.p (.mv t2),none⟩,
⟨d50,.p (.faddr 1 t6),none⟩,
⟨d51,.r (.ldS t50),none⟩,
⟨d52,.p (.build [(.int .i64 (.ofNat 0)),(.int .i64 (.ofNat 0))] [(0, 1, t49),(1, 1, t51)]),none⟩,
⟨d53,.p (.build [(.int .i64 (.ofNat 0)),(.int .i64 (.ofNat 0)),(.int .i64 (.ofNat 0)),(.int .i64 (.ofNat 0)),(.int .i64 (.ofNat 0)),(.int .i64 (.ofNat 0)),(.int .i64 (.ofNat 0)),(.int .i64 (.ofNat 0)),(.int .i64 (.ofNat 0)),.nils,(.int .i64 (.ofNat 0)),.nils,(.str []),(.int .i64 (.ofNat 0)),(.int .i64 (.ofNat 0)),(.int .i64 (.ofNat 0)),(.int .i64 (.ofNat 0)),(.int .i64 (.ofNat 0)),(.bool false),(.bool false)] [(0, 1, k10),(1, 2, t52)]),none⟩,
⟨d54,.call p199 [t47,t48,t53,k0],none⟩])
 .skip))
 (.seq (.ops [⟨d55,.p (.mv t14),none⟩,
⟨d10,.p (.mv t55),none⟩])
 .ret)))))⟩
theorem c143 : Go.Ev.EntOk Go.Proofs.Tryz.prog (143, f143) := ⟨Go.Proofs.Tryz.f143, Go.Proofs.Tryz.func143, by kernel_rfl, Go.Proofs.Tryz.call143⟩
def f144 : IFunc := ⟨6, [.t p12], (.seq (.ops [⟨d7,.a (.box 113 t1),none⟩,
⟨d8,.a (.box 49 t2),none⟩,
⟨d9,.a (.box 49 t3),none⟩,
⟨d12,.p (.mv k0),none⟩])
 (.seq (.seq (.ops [⟨d13,.r (.ldA 2 t9),none⟩,
⟨d14,.call p200 [t13],none⟩,
⟨d15,.p (.not t14),none⟩])
 (.cond t15 (.seq (.ops [⟨d12,.p (.mv k31),none⟩])
 .ret)
 .skip))
 (.seq (.seq (.ops [⟨d16,.p (.faddr 0 t7),none⟩,
⟨d17,.r (.ldA 2 t16),none⟩,
⟨d18,.p (.faddr 2 t7),none⟩,
⟨d19,.r (.ldA 2 t18),none⟩,
⟨d20,.r (.ldA 2 t8),none⟩,
⟨d21,.r (.ldA 2 t9),none⟩,
⟨d22,.call p201 [t17,t19,t20,t21],none⟩,
⟨d23,.p (.bin .neq t22 k0),none⟩])
 (.cond t23 (.seq (.ops [⟨d12,.p (.mv k26),none⟩])
 .ret)
 .skip))
 (.seq (.seq (.ops [⟨d24,.p (.mv t4),none⟩,
⟨d25,.p (.bin .lss t24 k1),none⟩,
⟨d26,.p (.mv t25),none⟩,
⟨d27,.p (.mv t4),(some (p26, false))⟩,
⟨d28,.p (.bin .gtr t27 (.c (.int .i64 (.ofNat 1099511627776)))),(some (p26, false))⟩,
⟨d29,.p (.pick t26 (.c (.bool true)) t28),none⟩,
⟨d30,.p (.mv t29),none⟩,
⟨d31,.p (.mv t0),(some (p30, false))⟩,
⟨d32,.p (.mv t5),(some (p30, false))⟩,
⟨d33,.call p202 [t31,t32],(some (p30, false))⟩,
⟨d34,.p (.not t33),(some (p30, false))⟩,
⟨d35,.p (.pick t30 (.c (.bool true)) t34),none⟩])
 (.cond t35 (.seq (.ops [⟨d12,.p (.mv k31),none⟩])
 .ret)
 .skip))
 (.seq (.ops [⟨d12,.p (.mv k0),none⟩])
 .ret)))))⟩
theorem c144 : Go.Ev.EntOk Go.Proofs.Tryz.prog (144, f144) := ⟨Go.Proofs.Tryz.f144, Go.Proofs.Tryz.func144, by kernel_rfl, Go.Proofs.Tryz.call144⟩
def f145 : IFunc := ⟨1, [.t p2], (.seq (.ops [⟨d2,.p (.mv (.c .nils)),none⟩])
 (.seq (.ops [⟨d3,.p (.mv (.c .nils)),none⟩])
 (.seq (.block 0 (.loop (.seq (.seq (.ops [⟨d6,.p (.mv t0),none⟩,
⟨d7,.p (.lenStr t6),none⟩,
⟨d8,.p (.bin .geq t7 k8),none⟩])
 (.cond t8 .skip
 (.exit 0)))
 (.seq (.block 1 (.seq (.ops [⟨d4,.p (.mv k0),none⟩])
 (.seq (.seq (.ops [⟨d11,.p (.mv k0),none⟩])
 (.block 2 (.loop (.seq (.ops [⟨d12,.p (.bin .lss t11 k8),none⟩])
 (.seq (.cond t12 .skip
 (.exit 2))
 (.seq (.block 3 (.seq (.ops [⟨d13,.p (.mv t11),none⟩,
⟨d5,.p (.mv t13),none⟩])
 (.ops [⟨d14,.p (.mv t4),none⟩,
⟨d15,.p (.mv t0),none⟩,
⟨d16,.p (.mv t5),none⟩,
⟨d17,.p (.idxStr t15 t16),none⟩,
⟨d18,.p (.conv .i64 t17),none⟩,
⟨d19,.p (.mv t5),none⟩,
⟨d20,.p (.bin .mul k8 t19),none⟩,
⟨d21,.p (.bin .shl t18 t20),none⟩,
⟨d22,.p (.bin .or t14 t21),none⟩,
⟨d4,.p (.mv t22),none⟩])))
 (.ops [⟨d23,.p (.bin .add t11 k1),none⟩,
⟨d11,.p (.mv t23),none⟩])))))))
 (.ops [⟨d24,.p (.mv t3),none⟩,
⟨d25,.p (.mv t4),none⟩,
⟨d26,.a (.bslice 3 1 1 [(.int .i64 (.ofNat 0))] [(0, 1, t25)]),none⟩,
⟨d27,.w (.app 3 1 8 t24 t26),none⟩,
⟨d3,.p (.mv t27),none⟩]))))
 (.ops [⟨d9,.p (.mv t0),none⟩,
⟨d10,.p (.slStr t9 (some k8) none),none⟩,
⟨d0,.p (.mv t10),none⟩])))))
 (.seq (.ops [⟨d28,.p (.mv t3),none⟩,
⟨d2,.p (.mv t28),none⟩])
 .ret))))⟩
theorem c145 : Go.Ev.EntOk Go.Proofs.Tryz.prog (145, f145) := ⟨Go.Proofs.Tryz.f145, Go.Proofs.Tryz.func145, by kernel_rfl, Go.Proofs.Tryz.call145⟩
def f146 : IFunc := ⟨1, [.cA p2 6], (.seq (.ops [⟨d2,.a (.alloc 77 [(.int .i64 (.ofNat 0)),(.int .i64 (.ofNat 0)),(.int .i64 (.ofNat 0)),(.int .i64 (.ofNat 0)),(.bool false),(.int .i64 (.ofNat 0))]),none⟩])
 (.seq (.reg [⟨[0],⟨d3,.p (.mv t0),none⟩,0,0⟩,
⟨[1],⟨d4,.p (.iaddrS 1 t3 k0),none⟩,0,0⟩,
⟨[2],⟨d5,.r (.ldS t4),none⟩,0,0⟩,
⟨[3],⟨d6,.p (.mv t0),none⟩,0,0⟩,
⟨[4],⟨d7,.p (.iaddrS 1 t6 k1),none⟩,0,0⟩,
⟨[5],⟨d8,.r (.ldS t7),none⟩,0,0⟩,
⟨[6],⟨d9,.p (.mv t0),none⟩,0,0⟩,
⟨[7],⟨d10,.p (.iaddrS 1 t9 k2),none⟩,0,0⟩,
⟨[8],⟨d11,.r (.ldS t10),none⟩,0,0⟩,
⟨[9],⟨d12,.p (.mv t0),none⟩,0,0⟩,
⟨[10],⟨d13,.p (.iaddrS 1 t12 k3),none⟩,0,0⟩,
⟨[11],⟨d14,.r (.ldS t13),none⟩,0,0⟩,
⟨[12],⟨d15,.p (.bin .eql t14 k1),none⟩,0,0⟩,
⟨[13],⟨d16,.p (.mv t0),none⟩,0,0⟩,
⟨[14],⟨d17,.p (.iaddrS 1 t16 k4),none⟩,0,0⟩,
⟨[15],⟨d18,.r (.ldS t17),none⟩,0,0⟩,
⟨[16],⟨d19,.p (.build [(.int .i64 (.ofNat 0)),(.int .i64 (.ofNat 0)),(.int .i64 (.ofNat 0)),(.int .i64 (.ofNat 0)),(.bool false),(.int .i64 (.ofNat 0))] [(2, 1, t5),(1, 1, t8),(3, 1, t11),(4, 1, t15),(5, 1, t18)]),none⟩,0,0⟩,
⟨[17],⟨none,.w (.st 6 t2 t19),none⟩,0,0⟩])
 .ret))⟩
theorem c146 : Go.Ev.EntOk Go.Proofs.Tryz.prog (146, f146) := ⟨Go.Proofs.Tryz.f146, Go.Proofs.Tryz.func146, by kernel_rfl, Go.Proofs.Tryz.call146⟩
def f147 : IFunc := ⟨1, [.t p2], (.seq (.ops [⟨d1,.a (.box 77 t0),none⟩,
⟨d2,.p (.mv (.c .nils)),none⟩])
 (.seq (.ops [⟨d3,.p (.mv k0),none⟩])
 (.seq (.seq (.ops [⟨d4,.p (.faddr 4 t1),none⟩,
⟨d5,.r (.ldS t4),none⟩])
 (.cond t5 (.ops [⟨d3,.p (.mv k1),none⟩])
 .skip))
 (.seq (.ops [⟨d6,.p (.faddr 2 t1),none⟩,
⟨d7,.r (.ldS t6),none⟩,
⟨d8,.p (.faddr 1 t1),none⟩,
⟨d9,.r (.ldS t8),none⟩,
⟨d10,.p (.faddr 3 t1),none⟩,
⟨d11,.r (.ldS t10),none⟩,
⟨d12,.p (.mv t3),none⟩,
⟨d13,.p (.faddr 5 t1),none⟩,
⟨d14,.r (.ldS t13),none⟩,
⟨d15,.a (.bslice 3 1 5 [(.int .i64 (.ofNat 0)),(.int .i64 (.ofNat 0)),(.int .i64 (.ofNat 0)),(.int .i64 (.ofNat 0)),(.int .i64 (.ofNat 0))] [(0, 1, t7),(1, 1, t9),(2, 1, t11),(3, 1, t12),(4, 1, t14)]),none⟩,
⟨d2,.p (.mv t15),none⟩])
 .ret))))⟩
theorem c147 : Go.Ev.EntOk Go.Proofs.Tryz.prog (147, f147) := ⟨Go.Proofs.Tryz.f147, Go.Proofs.Tryz.func147, by kernel_rfl, Go.Proofs.Tryz.call147⟩
def f148 : IFunc := ⟨2, [.t p4], (.seq (.ops [⟨d2,.a (.box 49 t0),none⟩,
⟨d4,.p (.mv (.c (.bool false))),none⟩])
 (.seq (.seq (.ops [⟨d7,.p (.faddr 1 t2),none⟩,
⟨d8,.r (.ldS t7),none⟩,
⟨d9,.p (.lenSl t8),none⟩,
⟨d10,.p (.mv k0),none⟩])
 (.block 0 (.loop (.seq (.ops [⟨d11,.p (.bin .lss t10 t9),none⟩])
 (.seq (.cond t11 .skip
 (.exit 0))
 (.seq (.block 1 (.seq (.ops [⟨d12,.p (.iaddrS 2 t8 t10),none⟩,
⟨d13,.r (.ldA 2 t12),none⟩,
⟨d6,.a (.alloc 178 [(.int .i64 (.ofNat 0)),(.int .i64 (.ofNat 0))]),none⟩,
⟨none,.w (.st 2 t6 t13),none⟩])
 (.seq (.ops [⟨d14,.p (.faddr 0 t6),none⟩,
⟨d15,.r (.ldS t14),none⟩,
⟨d16,.p (.mv t1),none⟩,
⟨d17,.p (.bin .eql t15 t16),none⟩])
 (.cond t17 (.seq (.ops [⟨d4,.p (.mv (.c (.bool true))),none⟩])
 .ret)
 .skip))))
 (.ops [⟨d18,.p (.bin .add t10 k1),none⟩,
⟨d10,.p (.mv t18),none⟩])))))))
 (.seq (.ops [⟨d4,.p (.mv (.c (.bool false))),none⟩])
 .ret)))⟩
theorem c148 : Go.Ev.EntOk Go.Proofs.Tryz.prog (148, f148) := ⟨Go.Proofs.Tryz.f148, Go.Proofs.Tryz.func148, by kernel_rfl, Go.Proofs.Tryz.call148⟩
def f149 : IFunc := ⟨3, [.cA p6 2,.t p7], (.seq (.ops [⟨d3,.a (.box 49 t0),none⟩,
⟨d4,.a (.box 3 t1),none⟩,
⟨d6,.a (.alloc 49 [(.int .i64 (.ofNat 0)),.nils]),none⟩,
⟨d7,.p (.mv k0),none⟩])
 (.seq (.seq (.ops [⟨d9,.r (.ldS t4),none⟩,
⟨d10,.p (.bin .lss t9 k1),none⟩,
⟨d11,.p (.mv t10),none⟩,
⟨d12,.r (.ldS t4),(some (p11, false))⟩,
⟨d13,.p (.bin .gtr t12 (.c (.int .i64 (.ofNat 2305843009213693951)))),(some (p11, false))⟩,
⟨d14,.p (.pick t11 (.c (.bool true)) t13),none⟩,
⟨d15,.p (.mv t14),none⟩,
⟨d16,.p (.mv t2),(some (p15, false))⟩,
⟨d17,.p (.bin .lss t16 k0),(some (p15, false))⟩,
⟨d18,.p (.pick t15 (.c (.bool true)) t17),none⟩,
⟨d19,.p (.mv t18),none⟩,
⟨d20,.p (.mv t2),(some (p19, false))⟩,
⟨d21,.p (.bin .gtr t20 k5),(some (p19, false))⟩,
⟨d22,.p (.pick t19 (.c (.bool true)) t21),none⟩])
 (.cond t22 (.seq (.ops [⟨d23,.p (.build [(.int .i64 (.ofNat 0)),.nils] []),none⟩,
⟨none,.w (.st 2 t6 t23),none⟩,
⟨d7,.p (.mv k1),none⟩])
 .ret)
 .skip))
 (.seq (.ops [⟨d24,.p (.faddr 1 t3),none⟩,
⟨d25,.r (.ldS t24),none⟩,
⟨d26,.call p123 [t25],none⟩,
⟨d27,.p (.mkfn p204 [] [t4]),none⟩,
⟨d28,.call p203 [t26,t27],none⟩,
⟨d8,.p (.mv t28),none⟩])
 (.seq (.reg [⟨[2],⟨d31,.p (.mv t8),none⟩,0,0⟩,
⟨[3],⟨d32,.r (.ldS t4),none⟩,0,0⟩,
⟨[4],⟨d33,.p (.mv t2),none⟩,0,0⟩,
⟨[5],⟨d34,.p (.build [(.int .i64 (.ofNat 0)),(.int .i64 (.ofNat 0))] [(0, 1, t32),(1, 1, t33)]),none⟩,0,0⟩,
⟨[6],⟨d35,.a (.bslice 178 2 1 [(.int .i64 (.ofNat 0)),(.int .i64 (.ofNat 0))] [(0, 2, t34)]),none⟩,0,0⟩,
⟨[7],⟨d36,.w (.app 178 2 16 t31 t35),none⟩,0,0⟩,
⟨[0],⟨d29,.p (.faddr 0 t3),none⟩,0,1⟩,
⟨[1],⟨d30,.r (.ldS t29),none⟩,0,1⟩,
⟨[8],⟨d37,.call p205 [t30,t36],none⟩,1,1⟩,
⟨[9],⟨d38,.p (.ext t37 0),none⟩,2,2⟩,
⟨[10],⟨d39,.p (.ext t37 1),none⟩,2,2⟩,
⟨[11],⟨none,.w (.st 2 t6 t38),none⟩,2,2⟩,
⟨[12],⟨d7,.p (.mv t39),none⟩,3,3⟩])
 .ret))))⟩
theorem c149 : Go.Ev.EntOk Go.Proofs.Tryz.prog (149, f149) := ⟨Go.Proofs.Tryz.f149, Go.Proofs.Tryz.func149, by kernel_rfl, Go.Proofs.Tryz.call149⟩
def f150 : IFunc := ⟨3, [.t p6], (.seq (.ops [⟨d5,.a (.box 49 t2),none⟩,
⟨d6,.p (.mv k0),none⟩])
 (.seq (.ops [⟨d8,.p (.mv t0),none⟩,
⟨d9,.p (.mv t1),none⟩,
⟨d10,.call p121 [t8,t9],none⟩,
⟨d7,.p (.mv t10),none⟩])
 (.seq (.block 0 (.seq (.ops [⟨d12,.p (.mv t7),none⟩,
⟨d13,.p (.eqp false t12 (.c .nilp)),none⟩,
⟨d11,.p (.mv t13),none⟩])
 (.cond t11 (.seq (.ops [⟨d6,.p (.mv k4),none⟩])
 .ret)
 (.seq (.ops [⟨d15,.p (.mv t7),none⟩,
⟨d16,.p (.nilck t15),none⟩,
⟨d17,.p (.faddr 0 t16),none⟩,
⟨d18,.p (.faddr 1 t17),none⟩,
⟨d19,.r (.ldS t18),none⟩,
⟨d20,.p (.bin .neq t19 k4),none⟩,
⟨d14,.p (.mv t20),none⟩])
 (.cond t14 (.seq (.ops [⟨d6,.p (.mv k5),none⟩])
 .ret)
 (.seq (.ops [⟨d22,.r (.ldA 2 t5),none⟩,
⟨d23,.call p152 [t22],none⟩,
⟨d24,.p (.not t23),none⟩,
⟨d21,.p (.mv t24),none⟩])
 (.cond t21 (.seq (.ops [⟨d6,.p (.mv k1),none⟩])
 .ret)
 .skip)))))))
 (.seq (.ops [⟨d25,.p (.mv t7),none⟩,
⟨d26,.r (.ldA 2 t5),none⟩,
⟨d27,.call p122 [t26],none⟩,
⟨d28,.p (.nilck t25),none⟩,
⟨d29,.p (.faddr 0 t28),none⟩,
⟨d30,.p (.faddr 5 t29),none⟩,
⟨none,.w (.st 2 t30 t27),none⟩])
 (.seq (.ops [⟨d6,.p (.mv k0),none⟩])
 .ret)))))⟩
theorem c150 : Go.Ev.EntOk Go.Proofs.Tryz.prog (150, f150) := ⟨Go.Proofs.Tryz.f150, Go.Proofs.Tryz.func150, by kernel_rfl, Go.Proofs.Tryz.call150⟩
def f151 : IFunc := ⟨1, [.t p2], (.seq (.ops [⟨d1,.a (.box 49 t0),none⟩,
⟨d2,.p (.mv (.c (.bool false))),none⟩])
 (.seq (.seq (.ops [⟨d6,.p (.faddr 0 t1),none⟩,
⟨d7,.r (.ldS t6),none⟩,
⟨d8,.p (.bin .lss t7 k0),none⟩,
⟨d9,.p (.mv t8),none⟩,
⟨d10,.p (.faddr 0 t1),(some (p9, false))⟩,
⟨d11,.r (.ldS t10),(some (p9, false))⟩,
⟨d12,.p (.bin .gtr t11 k5),(some (p9, false))⟩,
⟨d13,.p (.pick t9 (.c (.bool true)) t12),none⟩,
⟨d14,.p (.mv t13),none⟩,
⟨d15,.p (.faddr 1 t1),(some (p14, false))⟩,
⟨d16,.r (.ldS t15),(some (p14, false))⟩,
⟨d17,.p (.lenSl t16),(some (p14, false))⟩,
⟨d18,.p (.bin .gtr t17 k16),(some (p14, false))⟩,
⟨d19,.p (.pick t14 (.c (.bool true)) t18),none⟩])
 (.cond t19 (.seq (.ops [⟨d2,.p (.mv (.c (.bool false))),none⟩])
 .ret)
 .skip))
 (.seq (.ops [⟨d3,.p (.mv k0),none⟩])
 (.seq (.seq (.ops [⟨d20,.p (.faddr 1 t1),none⟩,
⟨d21,.r (.ldS t20),none⟩,
⟨d22,.p (.lenSl t21),none⟩,
⟨d23,.p (.mv k0),none⟩])
 (.block 0 (.loop (.seq (.ops [⟨d24,.p (.bin .lss t23 t22),none⟩])
 (.seq (.cond t24 .skip
 (.exit 0))
 (.seq (.block 1 (.seq (.ops [⟨d25,.p (.iaddrS 2 t21 t23),none⟩,
⟨d26,.r (.ldA 2 t25),none⟩,
⟨d5,.a (.alloc 178 [(.int .i64 (.ofNat 0)),(.int .i64 (.ofNat 0))]),none⟩,
⟨none,.w (.st 2 t5 t26),none⟩])
 (.seq (.seq (.ops [⟨d27,.p (.faddr 0 t5),none⟩,
⟨d28,.r (.ldS t27),none⟩,
⟨d29,.p (.mv t3),none⟩,
⟨d30,.p (.bin .leq t28 t29),none⟩,
⟨d31,.p (.mv t30),none⟩,
⟨d32,.p (.faddr 0 t5),(some (p31, false))⟩,
⟨d33,.r (.ldS t32),(some (p31, false))⟩,
⟨d34,.p (.bin .gtr t33 (.c (.int .i64 (.ofNat 2305843009213693951)))),(some (p31, false))⟩,
⟨d35,.p (.pick t31 (.c (.bool true)) t34),none⟩,
⟨d36,.p (.mv t35),none⟩,
⟨d37,.p (.faddr 1 t5),(some (p36, false))⟩,
⟨d38,.r (.ldS t37),(some (p36, false))⟩,
⟨d39,.p (.bin .lss t38 k0),(some (p36, false))⟩,
⟨d40,.p (.pick t36 (.c (.bool true)) t39),none⟩,
⟨d41,.p (.mv t40),none⟩,
⟨d42,.p (.faddr 1 t5),(some (p41, false))⟩,
⟨d43,.r (.ldS t42),(some (p41, false))⟩,
⟨d44,.p (.bin .gtr t43 k5),(some (p41, false))⟩,
⟨d45,.p (.pick t41 (.c (.bool true)) t44),none⟩,
⟨d46,.p (.mv t45),none⟩,
⟨d47,.p (.faddr 1 t5),(some (p46, false))⟩,
⟨d48,.r (.ldS t47),(some (p46, false))⟩,
⟨d49,.p (.faddr 0 t1),(some (p46, false))⟩,
⟨d50,.r (.ldS t49),(some (p46, false))⟩,
⟨d51,.p (.bin .eql t48 t50),(some (p46, false))⟩,
⟨d52,.p (.pick t46 (.c (.bool true)) t51),none⟩])
 (.cond t52 (.seq (.ops [⟨d2,.p (.mv (.c (.bool false))),none⟩])
 .ret)
 .skip))
 (.ops [⟨d53,.p (.faddr 0 t5),none⟩,
⟨d54,.r (.ldS t53),none⟩,
⟨d3,.p (.mv t54),none⟩]))))
 (.ops [⟨d55,.p (.bin .add t23 k1),none⟩,
⟨d23,.p (.mv t55),none⟩])))))))
 (.seq (.ops [⟨d2,.p (.mv (.c (.bool true))),none⟩])
 .ret)))))⟩
theorem c151 : Go.Ev.EntOk Go.Proofs.Tryz.prog (151, f151) := ⟨Go.Proofs.Tryz.f151, Go.Proofs.Tryz.func151, by kernel_rfl, Go.Proofs.Tryz.call151⟩
def f152 : IFunc := ⟨1, [.t p2], (.seq (.ops [⟨d1,.a (.box 49 t0),none⟩,
⟨d2,.p (.mv (.c (.bool false))),none⟩])
 (.seq (.ops [⟨d3,.r (.ldA 2 t1),none⟩,
⟨d4,.call p151 [t3],none⟩,
⟨d5,.p (.mv t4),none⟩,
⟨d6,.r (.ldA 2 t1),(some (p5, true))⟩,
⟨d7,.call p206 [t6,k5],(some (p5, true))⟩,
⟨d8,.p (.not t7),(some (p5, true))⟩,
⟨d9,.p (.pick t5 t8 (.c (.bool false))),none⟩,
⟨d2,.p (.mv t9),none⟩])
 .ret))⟩
theorem c152 : Go.Ev.EntOk Go.Proofs.Tryz.prog (152, f152) := ⟨Go.Proofs.Tryz.f152, Go.Proofs.Tryz.func152, by kernel_rfl, Go.Proofs.Tryz.call152⟩
def f153 : IFunc := ⟨1, [.t p2], (.seq (.ops [⟨d2,.p (.mv k0),none⟩])
 (.seq (.seq (.ops [⟨d5,.p (.mv t0),none⟩,
⟨d6,.p (.lenSl t5),none⟩,
⟨d7,.p (.mv k0),none⟩])
 (.block 0 (.loop (.seq (.ops [⟨d8,.p (.bin .lss t7 t6),none⟩])
 (.seq (.cond t8 .skip
 (.exit 0))
 (.seq (.block 1 (.seq (.ops [⟨d9,.p (.iaddrS 1 t5 t7),none⟩,
⟨d10,.r (.ldS t9),none⟩,
⟨d4,.p (.mv t10),none⟩])
 (.seq (.ops [⟨d11,.p (.mv t4),none⟩,
⟨d12,.p (.not t11),none⟩])
 (.cond t12 (.seq (.ops [⟨d2,.p (.mv k3),none⟩])
 .ret)
 .skip))))
 (.ops [⟨d13,.p (.bin .add t7 k1),none⟩,
⟨d7,.p (.mv t13),none⟩])))))))
 (.seq (.ops [⟨d2,.p (.mv k0),none⟩])
 .ret)))⟩
theorem c153 : Go.Ev.EntOk Go.Proofs.Tryz.prog (153, f153) := ⟨Go.Proofs.Tryz.f153, Go.Proofs.Tryz.func153, by kernel_rfl, Go.Proofs.Tryz.call153⟩
def f154 : IFunc := ⟨2, [.cS p4], (.seq (.ops [⟨d2,.a (.box 49 t0),none⟩,
⟨d3,.a (.box 49 t1),none⟩,
⟨d4,.a (.alloc 4 [(.bool false)]),none⟩])
 (.seq (.seq (.ops [⟨d7,.p (.faddr 0 t2),none⟩,
⟨d8,.r (.ldS t7),none⟩,
⟨d9,.p (.faddr 0 t3),none⟩,
⟨d10,.r (.ldS t9),none⟩,
⟨d11,.p (.bin .gtr t8 t10),none⟩])
 (.cond t11 (.seq (.ops [⟨none,.w (.st 1 t4 (.c (.bool false))),none⟩])
 .ret)
 .skip))
 (.seq (.seq (.ops [⟨d12,.r (.ldA 2 t2),none⟩,
⟨d13,.r (.ldA 2 t3),none⟩,
⟨d14,.call p207 [t12,t13],none⟩])
 (.block 0 (.rangef t14 [p15,p16] (.ops [⟨d6,.a (.alloc 262 [(.int .i64 (.ofNat 0)),(.int .i64 (.ofNat 0))]),none⟩,
⟨none,.w (.st 2 t6 t16),none⟩])
 (.block 1 (.seq (.ops [⟨d17,.p (.iaddrA 2 1 t6 k0),none⟩,
⟨d18,.r (.ldS t17),none⟩,
⟨d19,.p (.iaddrA 2 1 t6 k1),none⟩,
⟨d20,.r (.ldS t19),none⟩,
⟨d21,.p (.bin .gtr t18 t20),none⟩])
 (.cond t21 (.seq (.ops [⟨none,.w (.st 1 t4 (.c (.bool false))),none⟩])
 .ret)
 .skip))))))
 (.seq (.ops [⟨none,.w (.st 1 t4 (.c (.bool true))),none⟩])
 .ret))))⟩
theorem c154 : Go.Ev.EntOk Go.Proofs.Tryz.prog (154, f154) := ⟨Go.Proofs.Tryz.f154, Go.Proofs.Tryz.func154, by kernel_rfl, Go.Proofs.Tryz.call154⟩
def f155 : IFunc := ⟨1, [.t p2], (.seq (.ops [⟨d1,.a (.box 49 t0),none⟩,
⟨d2,.p (.mv (.c (.bool false))),none⟩])
 (.seq (.ops [⟨d3,.r (.ldA 2 t1),none⟩,
⟨d4,.call p152 [t3],none⟩,
⟨d5,.p (.mv t4),none⟩,
⟨d6,.r (.ldA 2 t1),(some (p5, true))⟩,
⟨d7,.call p206 [t6,k0],(some (p5, true))⟩,
⟨d8,.p (.not t7),(some (p5, true))⟩,
⟨d9,.p (.pick t5 t8 (.c (.bool false))),none⟩,
⟨d2,.p (.mv t9),none⟩])
 .ret))⟩
theorem c155 : Go.Ev.EntOk Go.Proofs.Tryz.prog (155, f155) := ⟨Go.Proofs.Tryz.f155, Go.Proofs.Tryz.func155, by kernel_rfl, Go.Proofs.Tryz.call155⟩
def f156 : IFunc := ⟨2, [.t p4], (.seq (.ops [⟨d2,.a (.box 49 t0),none⟩,
⟨d3,.a (.box 300 t1),none⟩,
⟨d4,.p (.mv (.c (.bool false))),none⟩])
 (.seq (.ops [⟨d11,.p (.mkfn p208 [] [t3]),none⟩,
⟨d5,.a (.alloc 344 [.nilf]),none⟩,
⟨none,.w (.st 1 t5 t11),none⟩])
 (.seq (.ops [⟨d12,.p (.mkfn p209 [] [t2,t5]),none⟩,
⟨d6,.p (.mv t12),none⟩])
 (.seq (.seq (.ops [⟨d13,.r (.ldA 2 t2),none⟩,
⟨d14,.a (.bslice 49 2 1 [(.int .i64 (.ofNat 0)),.nils] [(0, 2, t13)]),none⟩,
⟨d15,.r (.ldS t3),none⟩,
⟨d16,.w (.app 49 2 32 t14 t15),none⟩,
⟨d17,.p (.lenSl t16),none⟩,
⟨d18,.p (.mv k0),none⟩])
 (.block 0 (.loop (.seq (.ops [⟨d19,.p (.bin .lss t18 t17),none⟩])
 (.seq (.cond t19 .skip
 (.exit 0))
 (.seq (.block 1 (.seq (.ops [⟨d20,.p (.iaddrS 2 t16 t18),none⟩,
⟨d21,.r (.ldA 2 t20),none⟩,
⟨d8,.a (.alloc 49 [(.int .i64 (.ofNat 0)),.nils]),none⟩,
⟨none,.w (.st 2 t8 t21),none⟩])
 (.seq (.ops [⟨d22,.p (.faddr 1 t8),none⟩,
⟨d23,.r (.ldS t22),none⟩,
⟨d24,.p (.lenSl t23),none⟩,
⟨d25,.p (.mv k0),none⟩])
 (.block 2 (.loop (.seq (.ops [⟨d26,.p (.bin .lss t25 t24),none⟩])
 (.seq (.cond t26 .skip
 (.exit 2))
 (.seq (.block 3 (.seq (.ops [⟨d27,.p (.iaddrS 2 t23 t25),none⟩,
⟨d28,.r (.ldA 2 t27),none⟩,
⟨d10,.a (.alloc 178 [(.int .i64 (.ofNat 0)),(.int .i64 (.ofNat 0))]),none⟩,
⟨none,.w (.st 2 t10 t28),none⟩])
 (.seq (.ops [⟨d29,.p (.mv t6),none⟩,
⟨d30,.p (.mkfn p210 [] [t10]),none⟩,
⟨d31,.callv t29 [t30],none⟩,
⟨d32,.p (.not t31),none⟩])
 (.cond t32 (.seq (.ops [⟨d4,.p (.mv (.c (.bool false))),none⟩])
 .ret)
 .skip))))
 (.ops [⟨d33,.p (.bin .add t25 k1),none⟩,
⟨d25,.p (.mv t33),none⟩])))))))))
 (.ops [⟨d34,.p (.bin .add t18 k1),none⟩,
⟨d18,.p (.mv t34),none⟩])))))))
 (.seq (.ops [⟨d35,.p (.mv t6),none⟩,
⟨d36,.callv t35 [(.c (.fn p211 [] []))],none⟩,
⟨d4,.p (.mv t36),none⟩])
 .ret)))))⟩
theorem c156 : Go.Ev.EntOk Go.Proofs.Tryz.prog (156, f156) := ⟨Go.Proofs.Tryz.f156, Go.Proofs.Tryz.func156, by kernel_rfl, Go.Proofs.Tryz.call156⟩
def f157 : IFunc := ⟨1, [.cA p2 2], (.seq (.ops [⟨d1,.a (.box 49 t0),none⟩,
⟨d2,.a (.alloc 49 [(.int .i64 (.ofNat 0)),.nils]),none⟩])
 (.seq (.ops [⟨d3,.r (.ldA 2 t1),none⟩,
⟨d4,.call p212 [t3,k0,k5],none⟩,
⟨none,.w (.st 2 t2 t4),none⟩])
 .ret))⟩
theorem c157 : Go.Ev.EntOk Go.Proofs.Tryz.prog (157, f157) := ⟨Go.Proofs.Tryz.f157, Go.Proofs.Tryz.func157, by kernel_rfl, Go.Proofs.Tryz.call157⟩
def f158 : IFunc := ⟨4, [.t p8], (.seq (.ops [⟨d4,.a (.box 49 t0),none⟩,
⟨d5,.a (.box 49 t1),none⟩,
⟨d6,.a (.box 49 t2),none⟩,
⟨d7,.a (.box 49 t3),none⟩,
⟨d8,.p (.mv k0),none⟩])
 (.seq (.seq (.ops [⟨d9,.r (.ldA 2 t6),none⟩,
⟨d10,.r (.ldA 2 t7),none⟩,
⟨d11,.call p189 [t9,t10],none⟩,
⟨d12,.p (.not t11),none⟩])
 (.cond t12 (.seq (.ops [⟨d8,.p (.mv k1),none⟩])
 .ret)
 .skip))
 (.seq (.reg [⟨[0],⟨d13,.r (.ldA 2 t4),none⟩,0,0⟩,
⟨[1],⟨d14,.r (.ldA 2 t6),none⟩,0,0⟩,
⟨[2],⟨d15,.call p154 [t13,t14],none⟩,0,0⟩,
⟨[3],⟨d16,.r (.ldA 2 t6),none⟩,0,1⟩,
⟨[4],⟨d17,.r (.ldA 2 t7),none⟩,0,1⟩,
⟨[5],⟨d18,.call p154 [t16,t17],none⟩,1,1⟩,
⟨[6],⟨d19,.r (.ldA 2 t7),none⟩,0,2⟩,
⟨[7],⟨d20,.r (.ldA 2 t5),none⟩,0,2⟩,
⟨[8],⟨d21,.call p154 [t19,t20],none⟩,2,2⟩,
⟨[9],⟨d22,.a (.bslice 4 1 3 [(.bool false),(.bool false),(.bool false)] [(0, 1, t15),(1, 1, t18),(2, 1, t21)]),none⟩,3,3⟩,
⟨[10],⟨d23,.call p153 [t22],none⟩,3,3⟩,
⟨[11],⟨d8,.p (.mv t23),none⟩,4,4⟩])
 .ret)))⟩
theorem c158 : Go.Ev.EntOk Go.Proofs.Tryz.prog (158, f158) := ⟨Go.Proofs.Tryz.f158, Go.Proofs.Tryz.func158, by kernel_rfl, Go.Proofs.Tryz.call158⟩
def f159 : IFunc := ⟨1, [.t p1], (.seq (.ops [⟨d1,.p (.mv k0),none⟩])
 (.seq (.seq (.reg [⟨[0],⟨d2,.r (.ldS t0),none⟩,0,0⟩,
⟨[1],⟨d3,.p (.nilck t2),none⟩,0,0⟩,
⟨[2],⟨d4,.p (.faddr 26 t3),none⟩,0,0⟩,
⟨[3],⟨d5,.r (.ldS t4),none⟩,0,0⟩,
⟨[4],⟨d6,.call p138 [t5],none⟩,0,0⟩,
⟨[5],⟨d7,.p (.not t6),none⟩,1,1⟩,
⟨[6],⟨d8,.p (.mv t7),none⟩,1,1⟩,
⟨[7],⟨d9,.r (.ldS t0),(some (p8, false))⟩,1,1⟩,
⟨[8],⟨d10,.p (.nilck t9),(some (p8, false))⟩,1,1⟩,
⟨[9],⟨d11,.p (.faddr 0 t10),(some (p8, false))⟩,1,1⟩,
⟨[10],⟨d12,.r (.ldS t11),(some (p8, false))⟩,1,1⟩,
⟨[11],⟨d13,.p (.nilck t12),(some (p8, false))⟩,1,1⟩,
⟨[12],⟨d14,.p (.faddr 3 t13),(some (p8, false))⟩,1,1⟩,
⟨[13],⟨d15,.r (.ldS t14),(some (p8, false))⟩,1,1⟩,
⟨[14],⟨d16,.r (.ldS t0),(some (p8, false))⟩,1,1⟩,
⟨[15],⟨d17,.p (.nilck t16),(some (p8, false))⟩,1,1⟩,
⟨[16],⟨d18,.p (.faddr 26 t17),(some (p8, false))⟩,1,1⟩,
⟨[17],⟨d19,.r (.ldS t18),(some (p8, false))⟩,1,1⟩,
⟨[18],⟨d20,.r (.look (.bool false) t15 t19 false),(some (p8, false))⟩,1,1⟩,
⟨[19],⟨d21,.p (.pick t8 (.c (.bool true)) t20),none⟩,1,1⟩])
 (.cond t21 (.seq (.ops [⟨d1,.p (.mv k8),none⟩])
 .ret)
 .skip))
 (.seq (.ops [⟨d1,.p (.mv k0),none⟩])
 .ret)))⟩
theorem c159 : Go.Ev.EntOk Go.Proofs.Tryz.prog (159, f159) := ⟨Go.Proofs.Tryz.f159, Go.Proofs.Tryz.func159, by kernel_rfl, Go.Proofs.Tryz.call159⟩
def f160 : IFunc := ⟨2, [.t p2], (.seq (.ops [⟨d2,.p (.mv k0),none⟩])
 (.seq (.seq (.ops [⟨d3,.r (.ldS t0),none⟩])
 (.cond t3 (.seq (.ops [⟨d4,.r (.ldS t1),none⟩,
⟨d2,.p (.mv t4),none⟩])
 .ret)
 .skip))
 (.seq (.ops [⟨d2,.p (.mv k0),none⟩])
 .ret)))⟩
theorem c160 : Go.Ev.EntOk Go.Proofs.Tryz.prog (160, f160) := ⟨Go.Proofs.Tryz.f160, Go.Proofs.Tryz.func160, by kernel_rfl, Go.Proofs.Tryz.call160⟩
def f161 : IFunc := ⟨2, [.t p4], (.seq (.ops [⟨d2,.a (.box 49 t0),none⟩,
⟨d3,.a (.box 49 t1),none⟩,
⟨d4,.p (.mv (.c (.bool false))),none⟩])
 (.seq (.reg [⟨[1],⟨d6,.r (.ldA 2 t2),none⟩,0,0⟩,
⟨[2],⟨d7,.call p157 [t6],none⟩,0,0⟩,
⟨[0],⟨d5,.r (.ldA 2 t3),none⟩,0,1⟩,
⟨[3],⟨d8,.call p154 [t5,t7],none⟩,1,1⟩,
⟨[4],⟨d4,.p (.mv t8),none⟩,2,2⟩])
 .ret))⟩
theorem c161 : Go.Ev.EntOk Go.Proofs.Tryz.prog (161, f161) := ⟨Go.Proofs.Tryz.f161, Go.Proofs.Tryz.func161, by kernel_rfl, Go.Proofs.Tryz.call161⟩
def f162 : IFunc := ⟨3, [.t p6], (.seq (.ops [⟨d6,.p (.mv (.c (.bool false))),none⟩])
 (.seq (.ops [⟨d10,.p (.mv t0),none⟩,
⟨d11,.p (.mv t1),none⟩,
⟨d12,.call p125 [t10,t11],none⟩,
⟨d9,.p (.mv t12),none⟩,
⟨d13,.p (.ext t9 0),none⟩,
⟨d14,.p (.ext t9 1),none⟩,
⟨d7,.p (.mv t13),none⟩,
⟨d8,.p (.mv t14),none⟩])
 (.seq (.ops [⟨d15,.p (.mv t8),none⟩,
⟨d16,.p (.bin .eql t15 k0),none⟩,
⟨d17,.p (.mv t16),none⟩,
⟨d18,.p (.mv t7),(some (p17, true))⟩,
⟨d19,.p (.nilck t18),(some (p17, true))⟩,
⟨d20,.p (.faddr 7 t19),(some (p17, true))⟩,
⟨d21,.p (.mv t2),(some (p17, true))⟩,
⟨d22,.call p164 [t20,t21],(some (p17, true))⟩,
⟨d23,.p (.pick t17 t22 (.c (.bool false))),none⟩,
⟨d6,.p (.mv t23),none⟩])
 .ret)))⟩
theorem c162 : Go.Ev.EntOk Go.Proofs.Tryz.prog (162, f162) := ⟨Go.Proofs.Tryz.f162, Go.Proofs.Tryz.func162, by kernel_rfl, Go.Proofs.Tryz.call162⟩
def f163 : IFunc := ⟨2, [.t p4], (.seq (.ops [⟨d2,.a (.box 49 t0),none⟩,
⟨d3,.a (.box 49 t1),none⟩,
⟨d4,.p (.mv (.c (.bool false))),none⟩])
 (.seq (.ops [⟨d5,.r (.ldA 2 t2),none⟩,
⟨d6,.r (.ldA 2 t3),none⟩,
⟨d7,.call p154 [t5,t6],none⟩,
⟨d8,.p (.mv t7),none⟩,
⟨d9,.r (.ldA 2 t2),(some (p8, true))⟩,
⟨d10,.r (.ldA 2 t3),(some (p8, true))⟩,
⟨d11,.call p161 [t9,t10],(some (p8, true))⟩,
⟨d12,.p (.pick t8 t11 (.c (.bool false))),none⟩,
⟨d4,.p (.mv t12),none⟩])
 .ret))⟩
theorem c163 : Go.Ev.EntOk Go.Proofs.Tryz.prog (163, f163) := ⟨Go.Proofs.Tryz.f163, Go.Proofs.Tryz.func163, by kernel_rfl, Go.Proofs.Tryz.call163⟩
def f164 : IFunc := ⟨2, [.t p4], (.seq (.ops [⟨d4,.p (.mv (.c (.bool false))),none⟩])
 (.seq (.ops [⟨d5,.p (.mv t0),none⟩,
⟨d6,.p (.nilck t5),none⟩,
⟨d7,.p (.faddr 0 t6),none⟩,
⟨d8,.r (.ldS t7),none⟩,
⟨d9,.p (.mv t1),none⟩,
⟨d10,.call p213 [t8,t9],none⟩,
⟨d4,.p (.mv t10),none⟩])
 .ret))⟩
theorem c164 : Go.Ev.EntOk Go.Proofs.Tryz.prog (164, f164) := ⟨Go.Proofs.Tryz.f164, Go.Proofs.Tryz.func164, by kernel_rfl, Go.Proofs.Tryz.call164⟩
def f165 : IFunc := ⟨1, [.t p2], (.seq (.ops [⟨d2,.p (.mv k0),none⟩])
 (.seq (.reg [⟨[0],⟨d3,.p (.mv t0),none⟩,0,0⟩,
⟨[1],⟨d4,.p (.nilck t3),none⟩,0,0⟩,
⟨[2],⟨d5,.p (.faddr 0 t4),none⟩,0,0⟩,
⟨[3],⟨d6,.p (.faddr 2 t5),none⟩,0,0⟩,
⟨[4],⟨d7,.r (.ldS t6),none⟩,0,0⟩,
⟨[5],⟨d8,.p (.mv t0),none⟩,0,0⟩,
⟨[6],⟨d9,.p (.nilck t8),none⟩,0,0⟩,
⟨[7],⟨d10,.p (.faddr 0 t9),none⟩,0,0⟩,
⟨[8],⟨d11,.p (.faddr 3 t10),none⟩,0,0⟩,
⟨[9],⟨d12,.r (.ldS t11),none⟩,0,0⟩,
⟨[10],⟨d13,.p (.bin .sub t7 t12),none⟩,0,0⟩,
⟨[11],⟨d2,.p (.mv t13),none⟩,0,0⟩])
 .ret))⟩
theorem c165 : Go.Ev.EntOk Go.Proofs.Tryz.prog (165, f165) := ⟨Go.Proofs.Tryz.f165, Go.Proofs.Tryz.func165, by kernel_rfl, Go.Proofs.Tryz.call165⟩
def f166 : IFunc := ⟨2, [], (.seq (.reg [⟨[0],⟨d4,.p (.mv t0),none⟩,0,0⟩,
⟨[1],⟨d5,.p (.nilck t4),none⟩,0,0⟩,
⟨[2],⟨d6,.p (.faddr 7 t5),none⟩,0,0⟩,
⟨[3],⟨d7,.p (.mv t1),none⟩,0,0⟩,
⟨[4],⟨d8,.p (.nilck t7),none⟩,0,0⟩,
⟨[5],⟨d9,.p (.faddr 0 t8),none⟩,0,0⟩,
⟨[6],⟨d10,.p (.faddr 0 t9),none⟩,0,0⟩,
⟨[7],⟨d11,.r (.ldS t10),none⟩,0,0⟩,
⟨[8],⟨d12,.call p214 [t6,t11],none⟩,0,0⟩])
 (.seq (.reg [⟨[0],⟨d13,.p (.mv t0),none⟩,0,0⟩,
⟨[1],⟨d14,.p (.nilck t13),none⟩,0,0⟩,
⟨[2],⟨d15,.p (.faddr 0 t14),none⟩,0,0⟩,
⟨[3],⟨d16,.p (.faddr 3 t15),none⟩,0,0⟩,
⟨[4],⟨d17,.r (.ldS t16),none⟩,0,0⟩,
⟨[5],⟨d18,.p (.mv t1),none⟩,0,0⟩,
⟨[6],⟨d19,.p (.nilck t18),none⟩,0,0⟩,
⟨[7],⟨d20,.p (.faddr 0 t19),none⟩,0,0⟩,
⟨[8],⟨d21,.p (.faddr 2 t20),none⟩,0,0⟩,
⟨[9],⟨d22,.r (.ldS t21),none⟩,0,0⟩,
⟨[10],⟨d23,.p (.bin .add t17 t22),none⟩,0,0⟩,
⟨[11],⟨d24,.p (.nilck t13),none⟩,0,0⟩,
⟨[12],⟨d25,.p (.faddr 0 t24),none⟩,0,0⟩,
⟨[13],⟨d26,.p (.faddr 3 t25),none⟩,0,0⟩,
⟨[14],⟨none,.w (.st 1 t26 t23),none⟩,0,0⟩])
 (.ops [⟨d27,.p (.mv t1),none⟩,
⟨d28,.p (.nilck t27),none⟩,
⟨d29,.p (.faddr 0 t28),none⟩,
⟨d30,.p (.faddr 4 t29),none⟩,
⟨d31,.r (.ldS t30),none⟩,
⟨d32,.p (.bin .add t31 k1),none⟩,
⟨d33,.p (.nilck t27),none⟩,
⟨d34,.p (.faddr 0 t33),none⟩,
⟨d35,.p (.faddr 4 t34),none⟩,
⟨none,.w (.st 1 t35 t32),none⟩])))⟩
theorem c166 : Go.Ev.EntOk Go.Proofs.Tryz.prog (166, f166) := ⟨Go.Proofs.Tryz.f166, Go.Proofs.Tryz.func166, by kernel_rfl, Go.Proofs.Tryz.call166⟩
def f167 : IFunc := ⟨3, [.t p6,.t p7,.t p8], (.seq (.ops [⟨d6,.p (.mv (.c .nilp)),none⟩,
⟨d7,.p (.mv (.c .nilp)),none⟩,
⟨d8,.p (.mv k0),none⟩])
 (.seq (.ops [⟨d10,.p (.mv t0),none⟩,
⟨d11,.p (.mv t1),none⟩,
⟨d12,.call p125 [t10,t11],none⟩,
⟨d9,.p (.mv t12),none⟩,
⟨d13,.p (.ext t9 0),none⟩,
⟨d14,.p (.ext t9 1),none⟩,
⟨d6,.p (.mv t13),none⟩,
⟨d8,.p (.mv t14),none⟩])
 (.seq (.seq (.ops [⟨d15,.p (.mv t8),none⟩,
⟨d16,.p (.bin .neq t15 k0),none⟩])
 (.cond t16 (.seq (.ops [⟨d17,.p (.mv t8),none⟩,
⟨d6,.p (.mv (.c .nilp)),none⟩,
⟨d7,.p (.mv (.c .nilp)),none⟩,
⟨d8,.p (.mv t17),none⟩])
 .ret)
 .skip))
 (.seq (.seq (.ops [⟨d18,.p (.mv t6),none⟩,
⟨d19,.p (.nilck t18),none⟩,
⟨d20,.p (.faddr 7 t19),none⟩,
⟨d21,.p (.mv t2),none⟩,
⟨d22,.call p164 [t20,t21],none⟩,
⟨d23,.p (.not t22),none⟩])
 (.cond t23 (.seq (.ops [⟨d6,.p (.mv (.c .nilp)),none⟩,
⟨d7,.p (.mv (.c .nilp)),none⟩,
⟨d8,.p (.mv k4),none⟩])
 .ret)
 .skip))
 (.seq (.ops [⟨d24,.p (.mv t6),none⟩,
⟨d25,.p (.mv t0),none⟩,
⟨d26,.p (.mv t2),none⟩,
⟨d27,.call p121 [t25,t26],none⟩,
⟨d6,.p (.mv t24),none⟩,
⟨d7,.p (.mv t27),none⟩,
⟨d8,.p (.mv k0),none⟩])
 .ret)))))⟩
theorem c167 : Go.Ev.EntOk Go.Proofs.Tryz.prog (167, f167) := ⟨Go.Proofs.Tryz.f167, Go.Proofs.Tryz.func167, by kernel_rfl, Go.Proofs.Tryz.call167⟩
def f168 : IFunc := ⟨2, [], (.seq (.reg [⟨[0],⟨d4,.p (.mv t0),none⟩,0,0⟩,
⟨[1],⟨d5,.p (.nilck t4),none⟩,0,0⟩,
⟨[2],⟨d6,.p (.faddr 7 t5),none⟩,0,0⟩,
⟨[3],⟨d7,.p (.mv t1),none⟩,0,0⟩,
⟨[4],⟨d8,.p (.nilck t7),none⟩,0,0⟩,
⟨[5],⟨d9,.p (.faddr 0 t8),none⟩,0,0⟩,
⟨[6],⟨d10,.p (.faddr 0 t9),none⟩,0,0⟩,
⟨[7],⟨d11,.r (.ldS t10),none⟩,0,0⟩,
⟨[8],⟨d12,.call p215 [t6,t11],none⟩,0,0⟩])
 (.seq (.reg [⟨[0],⟨d13,.p (.mv t0),none⟩,0,0⟩,
⟨[1],⟨d14,.p (.nilck t13),none⟩,0,0⟩,
⟨[2],⟨d15,.p (.faddr 0 t14),none⟩,0,0⟩,
⟨[3],⟨d16,.p (.faddr 3 t15),none⟩,0,0⟩,
⟨[4],⟨d17,.r (.ldS t16),none⟩,0,0⟩,
⟨[5],⟨d18,.p (.mv t1),none⟩,0,0⟩,
⟨[6],⟨d19,.p (.nilck t18),none⟩,0,0⟩,
⟨[7],⟨d20,.p (.faddr 0 t19),none⟩,0,0⟩,
⟨[8],⟨d21,.p (.faddr 2 t20),none⟩,0,0⟩,
⟨[9],⟨d22,.r (.ldS t21),none⟩,0,0⟩,
⟨[10],⟨d23,.p (.bin .sub t17 t22),none⟩,0,0⟩,
⟨[11],⟨d24,.p (.nilck t13),none⟩,0,0⟩,
⟨[12],⟨d25,.p (.faddr 0 t24),none⟩,0,0⟩,
⟨[13],⟨d26,.p (.faddr 3 t25),none⟩,0,0⟩,
⟨[14],⟨none,.w (.st 1 t26 t23),none⟩,0,0⟩])
 (.ops [⟨d27,.p (.mv t1),none⟩,
⟨d28,.p (.nilck t27),none⟩,
⟨d29,.p (.faddr 0 t28),none⟩,
⟨d30,.p (.faddr 4 t29),none⟩,
⟨d31,.r (.ldS t30),none⟩,
⟨d32,.p (.bin .sub t31 k1),none⟩,
⟨d33,.p (.nilck t27),none⟩,
⟨d34,.p (.faddr 0 t33),none⟩,
⟨d35,.p (.faddr 4 t34),none⟩,
⟨none,.w (.st 1 t35 t32),none⟩])))⟩
theorem c168 : Go.Ev.EntOk Go.Proofs.Tryz.prog (168, f168) := ⟨Go.Proofs.Tryz.f168, Go.Proofs.Tryz.func168, by kernel_rfl, Go.Proofs.Tryz.call168⟩
def f169 : IFunc := ⟨1, [.t p2], (.seq (.ops [⟨d1,.a (.box 42 t0),none⟩,
⟨d2,.p (.mv (.c .nilf)),none⟩])
 (.seq (.ops [⟨d3,.p (.mkfn p216 [] [t1]),none⟩,
⟨d2,.p (.mv t3),none⟩])
 .ret))⟩
theorem c169 : Go.Ev.EntOk Go.Proofs.Tryz.prog (169, f169) := ⟨Go.Proofs.Tryz.f169, Go.Proofs.Tryz.func169, by kernel_rfl, Go.Proofs.Tryz.call169⟩
def f170 : IFunc := ⟨2, [.t p4], (.seq (.ops [⟨d4,.p (.mv (.c (.bool false))),none⟩])
 (.seq (.seq (.ops [⟨d7,.p (.mv t0),none⟩,
⟨d8,.p (.eqp false t7 (.c .nilp)),none⟩])
 (.cond t8 (.seq (.ops [⟨d4,.p (.mv (.c (.bool false))),none⟩])
 .ret)
 .skip))
 (.seq (.ops [⟨d10,.p (.mv t0),none⟩,
⟨d11,.p (.nilck t10),none⟩,
⟨d12,.p (.faddr 1 t11),none⟩,
⟨d13,.r (.ldS t12),none⟩,
⟨d14,.p (.mv t1),none⟩,
⟨d15,.r (.look (.agg [(.int .i64 (.ofNat 0)),(.int .i64 (.ofNat 0)),(.int .i64 (.ofNat 0))]) t13 t14 true),none⟩,
⟨d9,.p (.mv t15),none⟩,
⟨d16,.p (.ext t9 0),none⟩,
⟨d17,.p (.ext t9 1),none⟩,
⟨d5,.a (.alloc 275 [(.int .i64 (.ofNat 0)),(.int .i64 (.ofNat 0)),(.int .i64 (.ofNat 0))]),none⟩,
⟨none,.w (.st 3 t5 t16),none⟩,
⟨d6,.p (.mv t17),none⟩])
 (.seq (.ops [⟨d18,.p (.mv t0),none⟩,
⟨d19,.p (.nilck t18),none⟩,
⟨d20,.p (.faddr 1 t19),none⟩,
⟨d21,.r (.ldS t20),none⟩,
⟨d22,.p (.mv t1),none⟩,
⟨none,.w (.mdel t21 t22),none⟩])
 (.seq (.ops [⟨d23,.p (.mv t0),none⟩,
⟨d24,.p (.nilck t23),none⟩,
⟨d25,.p (.faddr 2 t24),none⟩,
⟨d26,.r (.ldS t25),none⟩,
⟨d27,.p (.mv t1),none⟩,
⟨none,.w (.mdel t26 t27),none⟩])
 (.seq (.ops [⟨d28,.p (.mv t6),none⟩,
⟨d4,.p (.mv t28),none⟩])
 .ret))))))⟩
theorem c170 : Go.Ev.EntOk Go.Proofs.Tryz.prog (170, f170) := ⟨Go.Proofs.Tryz.f170, Go.Proofs.Tryz.func170, by kernel_rfl, Go.Proofs.Tryz.call170⟩
def f171 : IFunc := ⟨2, [.t p4], (.seq (.ops [⟨d3,.a (.box 3 t1),none⟩,
⟨d4,.p (.mv (.c .nils)),none⟩])
 (.seq (.ops [⟨d5,.p (.mv t0),none⟩,
⟨d6,.p (.mv t0),none⟩,
⟨d7,.p (.mkfn p218 [] [t3]),none⟩,
⟨d8,.call p217 [t6,t7],none⟩,
⟨d9,.call p176 [t5,t8],none⟩,
⟨d4,.p (.mv t9),none⟩])
 .ret))⟩
theorem c171 : Go.Ev.EntOk Go.Proofs.Tryz.prog (171, f171) := ⟨Go.Proofs.Tryz.f171, Go.Proofs.Tryz.func171, by kernel_rfl, Go.Proofs.Tryz.call171⟩
def f172 : IFunc := ⟨2, [.t p4], (.seq (.ops [⟨d4,.p (.mv (.c (.str []))),none⟩])
 (.seq (.seq (.ops [⟨d11,.p (.mv t0),none⟩,
⟨d12,.p (.lenSl t11),none⟩])
 (.block 0 (.seq (.ops [⟨d14,.p (.bin .eql t12 k0),none⟩,
⟨d13,.p (.mv t14),none⟩])
 (.cond t13 (.seq (.ops [⟨d4,.p (.mv (.c (.str []))),none⟩])
 .ret)
 (.seq (.ops [⟨d16,.p (.bin .eql t12 k1),none⟩,
⟨d15,.p (.mv t16),none⟩])
 (.cond t15 (.seq (.ops [⟨d17,.p (.mv t0),none⟩,
⟨d18,.p (.iaddrS 1 t17 k0),none⟩,
⟨d19,.r (.ldS t18),none⟩,
⟨d4,.p (.mv t19),none⟩])
 .ret)
 .skip))))))
 (.seq (.ops [⟨d5,.p (.mv k0),none⟩])
 (.seq (.seq (.ops [⟨d20,.p (.mv t1),none⟩,
⟨d21,.p (.lenStr t20),none⟩,
⟨d22,.p (.bin .gtr t21 k0),none⟩])
 (.cond t22 (.seq (.seq (.ops [⟨d23,.p (.mv t1),none⟩,
⟨d24,.p (.lenStr t23),none⟩,
⟨d25,.p (.mv t0),none⟩,
⟨d26,.p (.lenSl t25),none⟩,
⟨d27,.p (.bin .sub t26 k1),none⟩,
⟨d28,.p (.bin .quo (.c (.int .i64 (.ofNat 9223372036854775807))) t27),none⟩,
⟨d29,.p (.bin .geq t24 t28),none⟩])
 (.cond t29 (.ops [⟨d30,.p .bad,none⟩,
⟨none,.p .bad,none⟩])
 .skip))
 (.ops [⟨d31,.p (.mv t5),none⟩,
⟨d32,.p (.mv t1),none⟩,
⟨d33,.p (.lenStr t32),none⟩,
⟨d34,.p (.mv t0),none⟩,
⟨d35,.p (.lenSl t34),none⟩,
⟨d36,.p (.bin .sub t35 k1),none⟩,
⟨d37,.p (.bin .mul t33 t36),none⟩,
⟨d38,.p (.bin .add t31 t37),none⟩,
⟨d5,.p (.mv t38),none⟩]))
 .skip))
 (.seq (.seq (.ops [⟨d39,.p (.mv t0),none⟩,
⟨d40,.p (.lenSl t39),none⟩,
⟨d41,.p (.mv k0),none⟩])
 (.block 1 (.loop (.seq (.ops [⟨d42,.p (.bin .lss t41 t40),none⟩])
 (.seq (.cond t42 .skip
 (.exit 1))
 (.seq (.block 2 (.seq (.ops [⟨d43,.p (.iaddrS 1 t39 t41),none⟩,
⟨d44,.r (.ldS t43),none⟩,
⟨d7,.p (.mv t44),none⟩])
 (.seq (.seq (.ops [⟨d45,.p (.mv t7),none⟩,
⟨d46,.p (.lenStr t45),none⟩,
⟨d47,.p (.mv t5),none⟩,
⟨d48,.p (.bin .sub (.c (.int .i64 (.ofNat 9223372036854775807))) t47),none⟩,
⟨d49,.p (.bin .gtr t46 t48),none⟩])
 (.cond t49 (.ops [⟨d50,.p .bad,none⟩,
⟨none,.p .bad,none⟩])
 .skip))
 (.ops [⟨d51,.p (.mv t5),none⟩,
⟨d52,.p (.mv t7),none⟩,
⟨d53,.p (.lenStr t52),none⟩,
⟨d54,.p (.bin .add t51 t53),none⟩,
⟨d5,.p (.mv t54),none⟩]))))
 (.ops [⟨d55,.p (.bin .add t41 k1),none⟩,
⟨d41,.p (.mv t55),none⟩])))))))
 (.seq (.ops [⟨d8,.a (.alloc 259 [.nilp,.nils]),none⟩])
 (.seq (.ops [⟨d56,.p (.mv t5),none⟩,
⟨d57,.call p219 [t8,t56],none⟩])
 (.seq (.ops [⟨d58,.p (.mv t0),none⟩,
⟨d59,.p (.iaddrS 1 t58 k0),none⟩,
⟨d60,.r (.ldS t59),none⟩,
⟨d61,.call p220 [t8,t60],none⟩])
 (.seq (.seq (.ops [⟨d62,.p (.mv t0),none⟩,
⟨d63,.p (.slSl 1 t62 (some k1) none none),none⟩,
⟨d64,.p (.lenSl t63),none⟩,
⟨d65,.p (.mv k0),none⟩])
 (.block 3 (.loop (.seq (.ops [⟨d66,.p (.bin .lss t65 t64),none⟩])
 (.seq (.cond t66 .skip
 (.exit 3))
 (.seq (.block 4 (.seq (.ops [⟨d67,.p (.iaddrS 1 t63 t65),none⟩,
⟨d68,.r (.ldS t67),none⟩,
⟨d10,.p (.mv t68),none⟩])
 (.seq (.ops [⟨d69,.p (.mv t1),none⟩,
⟨d70,.call p220 [t8,t69],none⟩])
 (.ops [⟨d71,.p (.mv t10),none⟩,
⟨d72,.call p220 [t8,t71],none⟩]))))
 (.ops [⟨d73,.p (.bin .add t65 k1),none⟩,
⟨d65,.p (.mv t73),none⟩])))))))
 (.seq (.ops [⟨d74,.call p129 [t8],none⟩,
⟨d4,.p (.mv t74),none⟩])
 .ret))))))))))⟩
theorem c172 : Go.Ev.EntOk Go.Proofs.Tryz.prog (172, f172) := ⟨Go.Proofs.Tryz.f172, Go.Proofs.Tryz.func172, by kernel_rfl, Go.Proofs.Tryz.call172⟩
def f173 : IFunc := ⟨2, [.t p4], (.seq (.ops [⟨d4,.p (.mv (.c .nilp)),none⟩])
 (.seq (.seq (.ops [⟨d6,.p (.mv t0),none⟩,
⟨d7,.p (.nilck t6),none⟩,
⟨d8,.p (.faddr 2 t7),none⟩,
⟨d9,.r (.ldS t8),none⟩,
⟨d10,.p (.mv t1),none⟩,
⟨d11,.p (.iaddrS 1 t9 t10),none⟩,
⟨d12,.r (.ldS t11),none⟩,
⟨d13,.p (.not t12),none⟩])
 (.cond t13 (.seq (.ops [⟨d14,.p (.mv t0),none⟩,
⟨d15,.p (.nilck t14),none⟩,
⟨d16,.p (.faddr 1 t15),none⟩,
⟨d17,.r (.ldS t16),none⟩,
⟨d18,.p (.mv t1),none⟩,
⟨d19,.p (.iaddrS 1 t17 t18),none⟩,
⟨d20,.r (.ldS t19),none⟩,
⟨d21,.p (.nilck t20),none⟩,
⟨d22,.r (.ldA 64 t21),none⟩,
⟨d5,.a (.alloc 351 (List.replicate 64 (.int .u8 (.ofNat 0)))),none⟩,
⟨none,.w (.st 64 t5 t22),none⟩])
 (.reg [⟨[0],⟨d23,.p (.mv t0),none⟩,0,0⟩,
⟨[1],⟨d24,.p (.nilck t23),none⟩,0,0⟩,
⟨[2],⟨d25,.p (.faddr 1 t24),none⟩,0,0⟩,
⟨[3],⟨d26,.r (.ldS t25),none⟩,0,0⟩,
⟨[4],⟨d27,.p (.mv t1),none⟩,0,0⟩,
⟨[5],⟨d28,.p (.mv t0),none⟩,0,0⟩,
⟨[6],⟨d29,.p (.nilck t28),none⟩,0,0⟩,
⟨[7],⟨d30,.p (.faddr 2 t29),none⟩,0,0⟩,
⟨[8],⟨d31,.r (.ldS t30),none⟩,0,0⟩,
⟨[10],⟨d33,.p (.iaddrS 1 t26 t27),none⟩,0,0⟩,
⟨[11],⟨none,.w (.st 1 t33 t5),none⟩,0,0⟩,
⟨[9],⟨d32,.p (.mv t1),none⟩,0,1⟩,
⟨[12],⟨d34,.p (.iaddrS 1 t31 t32),none⟩,1,1⟩,
⟨[13],⟨none,.w (.st 1 t34 (.c (.bool true))),none⟩,1,1⟩]))
 .skip))
 (.seq (.ops [⟨d35,.p (.mv t0),none⟩,
⟨d36,.p (.nilck t35),none⟩,
⟨d37,.p (.faddr 1 t36),none⟩,
⟨d38,.r (.ldS t37),none⟩,
⟨d39,.p (.mv t1),none⟩,
⟨d40,.p (.iaddrS 1 t38 t39),none⟩,
⟨d41,.r (.ldS t40),none⟩,
⟨d4,.p (.mv t41),none⟩])
 .ret)))⟩
theorem c173 : Go.Ev.EntOk Go.Proofs.Tryz.prog (173, f173) := ⟨Go.Proofs.Tryz.f173, Go.Proofs.Tryz.func173, by kernel_rfl, Go.Proofs.Tryz.call173⟩
def f174 : IFunc := ⟨1, [.t p2], (.seq (.ops [⟨d2,.p (.mv k0),none⟩])
 (.seq (.ops [⟨d3,.p (.mv t0),none⟩,
⟨d4,.call p63 [t3],none⟩,
⟨d5,.p (.bin .add t4 k64),none⟩,
⟨d6,.p (.bin .sub t5 k1),none⟩,
⟨d7,.p (.bin .quo t6 k64),none⟩,
⟨d2,.p (.mv t7),none⟩])
 .ret))⟩
theorem c174 : Go.Ev.EntOk Go.Proofs.Tryz.prog (174, f174) := ⟨Go.Proofs.Tryz.f174, Go.Proofs.Tryz.func174, by kernel_rfl, Go.Proofs.Tryz.call174⟩
def f175 : IFunc := ⟨0, [.t p0], (.seq (.ops [⟨d0,.p (.mv (.c .nilp)),none⟩])
 (.seq (.ops [⟨d1,.p (.build [(.int .u8 (.ofNat 0)),(.int .u8 (.ofNat 0)),(.int .u8 (.ofNat 0)),(.int .u8 (.ofNat 0)),(.int .u8 (.ofNat 0)),(.int .u8 (.ofNat 0)),(.int .u8 (.ofNat 0)),(.int .u8 (.ofNat 0)),(.int .u8 (.ofNat 0)),(.int .u8 (.ofNat 0)),(.int .u8 (.ofNat 0)),(.int .u8 (.ofNat 0)),(.int .u8 (.ofNat 0)),(.int .u8 (.ofNat 0)),(.int .u8 (.ofNat 0)),(.int .u8 (.ofNat 0)),(.int .u8 (.ofNat 0)),(.int .u8 (.ofNat 0)),(.int .u8 (.ofNat 0)),(.int .u8 (.ofNat 0)),(.int .u8 (.ofNat 0)),(.int .u8 (.ofNat 0)),(.int .u8 (.ofNat 0)),(.int .u8 (.ofNat 0)),(.int .u8 (.ofNat 0)),(.int .u8 (.ofNat 0)),(.int .u8 (.ofNat 0)),(.int .u8 (.ofNat 0)),(.int .u8 (.ofNat 0)),(.int .u8 (.ofNat 0)),(.int .u8 (.ofNat 0)),(.int .u8 (.ofNat 0)),(.int .u8 (.ofNat 0)),(.int .u8 (.ofNat 0)),(.int .u8 (.ofNat 0)),(.int .u8 (.ofNat 0)),(.int .u8 (.ofNat 0)),(.int .u8 (.ofNat 0)),(.int .u8 (.ofNat 0)),(.int .u8 (.ofNat 0)),(.int .u8 (.ofNat 0)),(.int .u8 (.ofNat 0)),(.int .u8 (.ofNat 0)),(.int .u8 (.ofNat 0)),(.int .u8 (.ofNat 0)),(.int .u8 (.ofNat 0)),(.int .u8 (.ofNat 0)),(.int .u8 (.ofNat 0)),(.int .u8 (.ofNat 0)),(.int .u8 (.ofNat 0)),(.int .u8 (.ofNat 0)),(.int .u8 (.ofNat 0)),(.int .u8 (.ofNat 0)),(.int .u8 (.ofNat 0)),(.int .u8 (.ofNat 0)),(.int .u8 (.ofNat 0)),(.int .u8 (.ofNat 0)),(.int .u8 (.ofNat 0)),(.int .u8 (.ofNat 0)),(.int .u8 (.ofNat 0)),(.int .u8 (.ofNat 0)),(.int .u8 (.ofNat 0)),(.int .u8 (.ofNat 0)),(.int .u8 (.ofNat 0))] []),none⟩,
⟨d2,.a (.box 351 t1),none⟩,
⟨d0,.p (.mv t2),none⟩])
 .ret))⟩
theorem c175 : Go.Ev.EntOk Go.Proofs.Tryz.prog (175, f175) := ⟨Go.Proofs.Tryz.f175, Go.Proofs.Tryz.func175, by kernel_rfl, Go.Proofs.Tryz.call175⟩
def f176 : IFunc := ⟨2, [.t p4], (.seq (.ops [⟨d4,.p (.mv (.c .nils)),none⟩])
 (.seq (.seq (.ops [⟨d7,.p (.mv t1),none⟩,
⟨d8,.p (.lenSl t7),none⟩,
⟨d9,.p (.mv k0),none⟩])
 (.block 0 (.loop (.seq (.ops [⟨d10,.p (.bin .lss t9 t8),none⟩])
 (.seq (.cond t10 .skip
 (.exit 0))
 (.seq (.block 1 (.seq (.ops [⟨d11,.p (.iaddrS 1 t7 t9),none⟩,
⟨d12,.r (.ldS t11),none⟩,
⟨d6,.p (.mv t12),none⟩])
 (.ops [⟨d13,.p (.mv t0),none⟩,
⟨d14,.p (.nilck t13),none⟩,
⟨d15,.p (.faddr 1 t14),none⟩,
⟨d16,.r (.ldS t15),none⟩,
⟨d17,.p (.mv t6),none⟩,
⟨none,.w (.mdel t16 t17),none⟩])))
 (.ops [⟨d18,.p (.bin .add t9 k1),none⟩,
⟨d9,.p (.mv t18),none⟩])))))))
 (.seq (.ops [⟨d19,.p (.mv t1),none⟩,
⟨d4,.p (.mv t19),none⟩])
 .ret)))⟩
theorem c176 : Go.Ev.EntOk Go.Proofs.Tryz.prog (176, f176) := ⟨Go.Proofs.Tryz.f176, Go.Proofs.Tryz.func176, by kernel_rfl, Go.Proofs.Tryz.call176⟩
def f177 : IFunc := ⟨3, [.t p6], (.seq (.ops [⟨d4,.a (.box 3 t1),none⟩,
⟨d5,.a (.box 3 t2),none⟩,
⟨d6,.p (.mv (.c .nils)),none⟩])
 (.seq (.ops [⟨d7,.p (.mv t0),none⟩,
⟨d8,.p (.mkfn p221 [] [t4,t5]),none⟩,
⟨d9,.call p217 [t7,t8],none⟩,
⟨d6,.p (.mv t9),none⟩])
 .ret))⟩
theorem c177 : Go.Ev.EntOk Go.Proofs.Tryz.prog (177, f177) := ⟨Go.Proofs.Tryz.f177, Go.Proofs.Tryz.func177, by kernel_rfl, Go.Proofs.Tryz.call177⟩
def f178 : IFunc := ⟨1, [.t p2], (.seq (.ops [⟨d2,.p (.mv (.c (.bool false))),none⟩])
 (.seq (.ops [⟨d3,.p (.mv t0),none⟩,
⟨d4,.p (.bin .geq t3 k1),none⟩,
⟨d5,.p (.mv t4),none⟩,
⟨d6,.p (.mv t0),(some (p5, true))⟩,
⟨d7,.p (.bin .leq t6 (.c (.int .i64 (.ofNat 2305843009213693951)))),(some (p5, true))⟩,
⟨d8,.p (.pick t5 t7 (.c (.bool false))),none⟩,
⟨d2,.p (.mv t8),none⟩])
 .ret))⟩
theorem c178 : Go.Ev.EntOk Go.Proofs.Tryz.prog (178, f178) := ⟨Go.Proofs.Tryz.f178, Go.Proofs.Tryz.func178, by kernel_rfl, Go.Proofs.Tryz.call178⟩
def f185 : IFunc := ⟨2, [.t p4], (.seq (.ops [⟨d4,.p (.mv k0),none⟩])
 (.seq (.ops [⟨d7,.p (.mv t0),none⟩,
⟨d8,.call p226 [t7],none⟩,
⟨d5,.p (.mv t8),none⟩])
 (.seq (.ops [⟨d9,.p (.mv t1),none⟩,
⟨d10,.call p226 [t9],none⟩,
⟨d6,.p (.mv t10),none⟩])
 (.seq (.seq (.ops [⟨d11,.p (.mv t5),none⟩])
 (.cond t11 (.seq (.seq (.ops [⟨d12,.p (.mv t6),none⟩])
 (.cond t12 (.seq (.ops [⟨d4,.p (.mv k0),none⟩])
 .ret)
 .skip))
 (.seq (.ops [⟨d4,.p (.mv (.c (.int .i64 (.negSucc 0)))),none⟩])
 .ret))
 .skip))
 (.seq (.seq (.ops [⟨d13,.p (.mv t6),none⟩])
 (.cond t13 (.seq (.ops [⟨d4,.p (.mv k1),none⟩])
 .ret)
 .skip))
 (.seq (.seq (.ops [⟨d14,.p (.mv t0),none⟩,
⟨d15,.p (.mv t1),none⟩,
⟨d16,.p (.bin .lss t14 t15),none⟩])
 (.cond t16 (.seq (.ops [⟨d4,.p (.mv (.c (.int .i64 (.negSucc 0)))),none⟩])
 .ret)
 .skip))
 (.seq (.seq (.ops [⟨d17,.p (.mv t0),none⟩,
⟨d18,.p (.mv t1),none⟩,
⟨d19,.p (.bin .gtr t17 t18),none⟩])
 (.cond t19 (.seq (.ops [⟨d4,.p (.mv k1),none⟩])
 .ret)
 .skip))
 (.seq (.ops [⟨d4,.p (.mv k0),none⟩])
 .ret))))))))⟩
theorem c185 : Go.Ev.EntOk Go.Proofs.Tryz.prog (185, f185) := ⟨Go.Proofs.Tryz.f185, Go.Proofs.Tryz.func185, by kernel_rfl, Go.Proofs.Tryz.call185⟩
def f189 : IFunc := ⟨2, [.t p4], (.seq (.ops [⟨d2,.a (.box 49 t0),none⟩,
⟨d3,.a (.box 49 t1),none⟩,
⟨d4,.p (.mv (.c (.bool false))),none⟩])
 (.seq (.ops [⟨d5,.r (.ldA 2 t2),none⟩,
⟨d6,.call p152 [t5],none⟩,
⟨d7,.p (.mv t6),none⟩,
⟨d8,.r (.ldA 2 t3),(some (p7, true))⟩,
⟨d9,.call p155 [t8],(some (p7, true))⟩,
⟨d10,.p (.pick t7 t9 (.c (.bool false))),none⟩,
⟨d4,.p (.mv t10),none⟩])
 .ret))⟩
theorem c189 : Go.Ev.EntOk Go.Proofs.Tryz.prog (189, f189) := ⟨Go.Proofs.Tryz.f189, Go.Proofs.Tryz.func189, by kernel_rfl, Go.Proofs.Tryz.call189⟩
def f194 : IFunc := ⟨2, [.t p4], (.seq (.ops [⟨d2,.a (.box 49 t0),none⟩,
⟨d4,.p (.mv k0),none⟩])
 (.seq (.seq (.ops [⟨d7,.p (.faddr 1 t2),none⟩,
⟨d8,.r (.ldS t7),none⟩,
⟨d9,.p (.lenSl t8),none⟩,
⟨d10,.p (.mv k0),none⟩])
 (.block 0 (.loop (.seq (.ops [⟨d11,.p (.bin .lss t10 t9),none⟩])
 (.seq (.cond t11 .skip
 (.exit 0))
 (.seq (.block 1 (.seq (.ops [⟨d12,.p (.iaddrS 2 t8 t10),none⟩,
⟨d13,.r (.ldA 2 t12),none⟩,
⟨d6,.a (.alloc 178 [(.int .i64 (.ofNat 0)),(.int .i64 (.ofNat 0))]),none⟩,
⟨none,.w (.st 2 t6 t13),none⟩])
 (.seq (.ops [⟨d14,.p (.faddr 0 t6),none⟩,
⟨d15,.r (.ldS t14),none⟩,
⟨d16,.p (.mv t1),none⟩,
⟨d17,.p (.bin .eql t15 t16),none⟩])
 (.cond t17 (.seq (.ops [⟨d18,.p (.faddr 1 t6),none⟩,
⟨d19,.r (.ldS t18),none⟩,
⟨d4,.p (.mv t19),none⟩])
 .ret)
 .skip))))
 (.ops [⟨d20,.p (.bin .add t10 k1),none⟩,
⟨d10,.p (.mv t20),none⟩])))))))
 (.seq (.ops [⟨d21,.p (.faddr 0 t2),none⟩,
⟨d22,.r (.ldS t21),none⟩,
⟨d4,.p (.mv t22),none⟩])
 .ret)))⟩
theorem c194 : Go.Ev.EntOk Go.Proofs.Tryz.prog (194, f194) := ⟨Go.Proofs.Tryz.f194, Go.Proofs.Tryz.func194, by kernel_rfl, Go.Proofs.Tryz.call194⟩
def f195 : IFunc := ⟨3, [], (.block 0 (.loop (.seq (.seq (.ops [⟨d6,.r (.ldS t1),none⟩,
⟨d7,.p (.bin .gtr t6 k0),none⟩])
 (.cond t7 .skip
 (.exit 0)))
 (.block 1 (.seq (.ops [⟨d8,.r (.ldS t2),none⟩,
⟨d9,.p (.bin .rem t8 k64),none⟩,
⟨d4,.p (.mv t9),none⟩])
 (.seq (.ops [⟨d10,.p (.mv t4),none⟩,
⟨d11,.r (.ldS t1),none⟩,
⟨d12,.p (.bin .add t10 t11),none⟩,
⟨d13,.p (.mn t12 k64),none⟩,
⟨d5,.p (.mv t13),none⟩])
 (.seq (.seq (.ops [⟨d14,.p (.mv t0),none⟩,
⟨d15,.r (.ldS t2),none⟩,
⟨d16,.p (.bin .quo t15 k64),none⟩,
⟨d17,.p (.mv t4),none⟩,
⟨d18,.p (.mv t5),none⟩,
⟨d19,.p (.build [(.int .i64 (.ofNat 0)),(.int .i64 (.ofNat 0))] [(0, 1, t17),(1, 1, t18)]),none⟩,
⟨d20,.callv t14 [t16,t19],none⟩,
⟨d21,.p (.not t20),none⟩])
 (.cond t21 .ret
 .skip))
 (.seq (.ops [⟨d22,.r (.ldS t2),none⟩,
⟨d23,.p (.mv t5),none⟩,
⟨d24,.p (.mv t4),none⟩,
⟨d25,.p (.bin .sub t23 t24),none⟩,
⟨d26,.p (.bin .add t22 t25),none⟩,
⟨none,.w (.st 1 t2 t26),none⟩])
 (.ops [⟨d27,.r (.ldS t1),none⟩,
⟨d28,.p (.mv t5),none⟩,
⟨d29,.p (.mv t4),none⟩,
⟨d30,.p (.bin .sub t28 t29),none⟩,
⟨d31,.p (.bin .sub t27 t30),none⟩,
⟨none,.w (.st 1 t1 t31),none⟩])))))))))⟩
theorem c195 : Go.Ev.EntOk Go.Proofs.Tryz.prog (195, f195) := ⟨Go.Proofs.Tryz.f195, Go.Proofs.Tryz.func195, by kernel_rfl, Go.Proofs.Tryz.call195⟩
def f196 : IFunc := ⟨1, [], (.seq (.ops [⟨d2,.p (.mv t0),none⟩,
⟨d3,.p (.nilck t2),none⟩,
⟨d4,.p (.faddr 0 t3),none⟩,
⟨d5,.r (.ldS t4),none⟩,
⟨d6,.p (.eqp false t5 (.c .nilp)),none⟩])
 (.cond t6 (.ops [⟨d7,.p (.mv t0),none⟩,
⟨d8,.p (.mv t0),none⟩,
⟨d9,.r (.p2u t8),none⟩,
⟨d10,.call p227 [t9],none⟩,
⟨d11,.r (.u2p 259 2 t10),none⟩,
⟨d12,.p (.nilck t7),none⟩,
⟨d13,.p (.faddr 0 t12),none⟩,
⟨none,.w (.st 1 t13 t11),none⟩])
 (.seq (.ops [⟨d14,.p (.mv t0),none⟩,
⟨d15,.p (.nilck t14),none⟩,
⟨d16,.p (.faddr 0 t15),none⟩,
⟨d17,.r (.ldS t16),none⟩,
⟨d18,.p (.mv t0),none⟩,
⟨d19,.p (.eqp true t17 t18),none⟩])
 (.cond t19 .bad
 .skip))))⟩
theorem c196 : Go.Ev.EntOk Go.Proofs.Tryz.prog (196, f196) := ⟨Go.Proofs.Tryz.f196, Go.Proofs.Tryz.func196, by kernel_rfl, Go.Proofs.Tryz.call196⟩
def f197 : IFunc := ⟨3, [], (.seq (.ops [⟨d6,.r (.ldS t1),none⟩,
⟨d7,.call p145 [t6],none⟩,
⟨d4,.p (.mv t7),none⟩])
 (.seq (.ops [⟨d5,.p (.mv k0),none⟩])
 (.block 0 (.loop (.seq (.seq (.ops [⟨d8,.p (.mv t4),none⟩,
⟨d9,.p (.lenSl t8),none⟩,
⟨d10,.p (.faddr 0 t2),none⟩,
⟨d11,.r (.ldS t10),none⟩,
⟨d12,.p (.bin .geq t9 t11),none⟩])
 (.cond t12 .skip
 (.exit 0)))
 (.seq (.block 1 (.seq (.seq (.reg [⟨[2],⟨d17,.p (.faddr 1 t2),none⟩,0,0⟩,
⟨[3],⟨d18,.r (.ldS t17),none⟩,0,0⟩,
⟨[4],⟨d19,.p (.mv t4),none⟩,0,0⟩,
⟨[5],⟨d20,.p (.faddr 0 t2),none⟩,0,0⟩,
⟨[6],⟨d21,.r (.ldS t20),none⟩,0,0⟩,
⟨[7],⟨d22,.p (.slSl 1 t19 none (some t21) none),none⟩,0,0⟩,
⟨[8],⟨d23,.callv t18 [t22],none⟩,0,0⟩,
⟨[0],⟨d15,.p (.mv t0),none⟩,0,1⟩,
⟨[1],⟨d16,.p (.mv t5),none⟩,0,1⟩,
⟨[9],⟨d24,.callv t15 [t16,t23],none⟩,1,1⟩,
⟨[10],⟨d25,.p (.not t24),none⟩,2,2⟩])
 (.cond t25 .ret
 .skip))
 (.ops [⟨d26,.p (.mv t4),none⟩,
⟨d27,.p (.faddr 0 t2),none⟩,
⟨d28,.r (.ldS t27),none⟩,
⟨d29,.p (.slSl 1 t26 (some t28) none none),none⟩,
⟨d4,.p (.mv t29),none⟩])))
 (.ops [⟨d13,.p (.mv t5),none⟩,
⟨d14,.p (.bin .add t13 k1),none⟩,
⟨d5,.p (.mv t14),none⟩])))))))⟩
theorem c197 : Go.Ev.EntOk Go.Proofs.Tryz.prog (197, f197) := ⟨Go.Proofs.Tryz.f197, Go.Proofs.Tryz.func197, by kernel_rfl, Go.Proofs.Tryz.call197⟩
def f198 : IFunc := ⟨2, [.t p4], (.seq (.ops [⟨d3,.a (.box 49 t1),none⟩,
⟨d4,.p (.mv (.c (.bool false))),none⟩])
 (.seq (.seq (.ops [⟨d5,.p (.mv t0),none⟩,
⟨d6,.p (.bin .eql t5 k4),none⟩,
⟨d7,.p (.mv t6),none⟩,
⟨d8,.p (.mv t0),(some (p7, false))⟩,
⟨d9,.p (.bin .eql t8 k5),(some (p7, false))⟩,
⟨d10,.p (.pick t7 (.c (.bool true)) t9),none⟩])
 (.cond t10 (.seq (.ops [⟨d11,.r (.ldA 2 t3),none⟩,
⟨d12,.call p152 [t11],none⟩,
⟨d4,.p (.mv t12),none⟩])
 .ret)
 .skip))
 (.seq (.ops [⟨d13,.r (.ldA 2 t3),none⟩,
⟨d14,.call p155 [t13],none⟩,
⟨d4,.p (.mv t14),none⟩])
 .ret)))⟩
theorem c198 : Go.Ev.EntOk Go.Proofs.Tryz.prog (198, f198) := ⟨Go.Proofs.Tryz.f198, Go.Proofs.Tryz.func198, by kernel_rfl, Go.Proofs.Tryz.call198⟩
def f199 : IFunc := ⟨4, [.cA p8 8,.t p9], (.seq (.ops [⟨d5,.a (.box 36 t1),none⟩,
⟨d6,.a (.box 60 t2),none⟩,
⟨d8,.a (.alloc 52 [(.int .i64 (.ofNat 0)),(.str []),(.int .i64 (.ofNat 0)),.nils,(.int .i64 (.ofNat 0)),.nils,.nils,.nils]),none⟩,
⟨d9,.p (.mv k0),none⟩])
 (.seq (.reg [⟨[0],⟨d13,.p (.mv t0),none⟩,0,0⟩,
⟨[1],⟨d14,.p (.nilck t13),none⟩,0,0⟩,
⟨[2],⟨d15,.p (.faddr 0 t14),none⟩,0,0⟩,
⟨[3],⟨d16,.r (.ldS t15),none⟩,0,0⟩,
⟨[4],⟨d17,.p (.faddr 0 t5),none⟩,0,0⟩,
⟨[5],⟨d18,.r (.ldS t17),none⟩,0,0⟩,
⟨[6],⟨d19,.r (.ldA 20 t6),none⟩,0,0⟩,
⟨[7],⟨d20,.p (.mv t3),none⟩,0,0⟩,
⟨[8],⟨d21,.call p17 [t16,t18,t19,t20],none⟩,0,0⟩,
⟨[9],⟨d12,.p (.mv t21),none⟩,1,1⟩,
⟨[10],⟨d22,.p (.ext t12 0),none⟩,1,1⟩,
⟨[12],⟨d10,.a (.alloc 52 [(.int .i64 (.ofNat 0)),(.str []),(.int .i64 (.ofNat 0)),.nils,(.int .i64 (.ofNat 0)),.nils,.nils,.nils]),none⟩,0,1⟩,
⟨[13],⟨none,.w (.st 8 t10 t22),none⟩,1,1⟩,
⟨[11],⟨d23,.p (.ext t12 1),none⟩,1,2⟩,
⟨[14],⟨d11,.p (.mv t23),none⟩,2,2⟩])
 (.seq (.reg [⟨[1],⟨d25,.p (.mv t11),none⟩,0,0⟩,
⟨[2],⟨d26,.call p228 [t25],none⟩,0,0⟩,
⟨[0],⟨d24,.r (.ldA 8 t10),none⟩,0,1⟩,
⟨[3],⟨none,.w (.st 8 t8 t24),none⟩,1,1⟩,
⟨[4],⟨d9,.p (.mv t26),none⟩,2,2⟩])
 .ret)))⟩
theorem c199 : Go.Ev.EntOk Go.Proofs.Tryz.prog (199, f199) := ⟨Go.Proofs.Tryz.f199, Go.Proofs.Tryz.func199, by kernel_rfl, Go.Proofs.Tryz.call199⟩
def f200 : IFunc := ⟨1, [.t p2], (.seq (.ops [⟨d1,.a (.box 49 t0),none⟩,
⟨d2,.p (.mv (.c (.bool false))),none⟩])
 (.seq (.ops [⟨d3,.r (.ldA 2 t1),none⟩,
⟨d4,.call p229 [t3],none⟩,
⟨d5,.p (.mv t4),none⟩,
⟨d6,.r (.ldA 2 t1),(some (p5, true))⟩,
⟨d7,.call p230 [t6,k0],(some (p5, true))⟩,
⟨d8,.p (.not t7),(some (p5, true))⟩,
⟨d9,.p (.pick t5 t8 (.c (.bool false))),none⟩,
⟨d2,.p (.mv t9),none⟩])
 .ret))⟩
theorem c200 : Go.Ev.EntOk Go.Proofs.Tryz.prog (200, f200) := ⟨Go.Proofs.Tryz.f200, Go.Proofs.Tryz.func200, by kernel_rfl, Go.Proofs.Tryz.call200⟩
def f201 : IFunc := ⟨4, [.t p8], (.seq (.ops [⟨d4,.a (.box 49 t0),none⟩,
⟨d5,.a (.box 49 t1),none⟩,
⟨d6,.a (.box 49 t2),none⟩,
⟨d7,.a (.box 49 t3),none⟩,
⟨d8,.p (.mv k0),none⟩])
 (.seq (.reg [⟨[0],⟨d9,.r (.ldA 2 t4),none⟩,0,0⟩,
⟨[1],⟨d10,.r (.ldA 2 t6),none⟩,0,0⟩,
⟨[2],⟨d11,.call p232 [t9,t10],none⟩,0,0⟩,
⟨[3],⟨d12,.p (.mv t11),none⟩,1,1⟩,
⟨[4],⟨d13,.r (.ldA 2 t4),(some (p12, true))⟩,1,1⟩,
⟨[5],⟨d14,.r (.ldA 2 t7),(some (p12, true))⟩,1,1⟩,
⟨[6],⟨d15,.call p233 [t13,t14],(some (p12, true))⟩,1,1⟩,
⟨[7],⟨d16,.p (.pick t12 t15 (.c (.bool false))),none⟩,2,2⟩,
⟨[8],⟨d17,.p (.mv t16),none⟩,2,2⟩,
⟨[9],⟨d18,.r (.ldA 2 t7),(some (p17, true))⟩,2,2⟩,
⟨[10],⟨d19,.r (.ldA 2 t5),(some (p17, true))⟩,2,2⟩,
⟨[11],⟨d20,.call p233 [t18,t19],(some (p17, true))⟩,2,2⟩,
⟨[12],⟨d21,.p (.pick t17 t20 (.c (.bool false))),none⟩,3,3⟩,
⟨[13],⟨d22,.p (.mv t21),none⟩,3,3⟩,
⟨[15],⟨d24,.r (.ldA 2 t7),(some (p22, true))⟩,3,3⟩,
⟨[16],⟨d25,.call p235 [t24],(some (p22, true))⟩,3,3⟩,
⟨[14],⟨d23,.r (.ldA 2 t6),(some (p22, true))⟩,3,4⟩,
⟨[17],⟨d26,.p (.build [(.int .i64 (.ofNat 0)),.nils] [(0, 1, k2)]),(some (p22, true))⟩,3,4⟩,
⟨[18],⟨d27,.call p234 [t23,t25,t26],(some (p22, true))⟩,4,4⟩,
⟨[19],⟨d28,.p (.pick t22 t27 (.c (.bool false))),none⟩,5,5⟩,
⟨[20],⟨d29,.call p231 [t28],none⟩,5,5⟩,
⟨[21],⟨d8,.p (.mv t29),none⟩,6,6⟩])
 .ret))⟩
theorem c201 : Go.Ev.EntOk Go.Proofs.Tryz.prog (201, f201) := ⟨Go.Proofs.Tryz.f201, Go.Proofs.Tryz.func201, by kernel_rfl, Go.Proofs.Tryz.call201⟩
def f202 : IFunc := ⟨2, [.t p4], (.seq (.ops [⟨d4,.p (.mv (.c (.bool false))),none⟩])
 (.seq (.ops [⟨d5,.p (.mv t1),none⟩,
⟨d6,.call p236 [t5],none⟩,
⟨d7,.p (.mv t6),none⟩,
⟨d8,.p (.mv t0),(some (p7, true))⟩,
⟨d9,.p (.nilck t8),(some (p7, true))⟩,
⟨d10,.p (.faddr 1 t9),(some (p7, true))⟩,
⟨d11,.r (.ldS t10),(some (p7, true))⟩,
⟨d12,.p (.mv t1),(some (p7, true))⟩,
⟨d13,.call p27 [t11,t12],(some (p7, true))⟩,
⟨d14,.p (.not t13),(some (p7, true))⟩,
⟨d15,.p (.pick t7 t14 (.c (.bool false))),none⟩,
⟨d4,.p (.mv t15),none⟩])
 .ret))⟩
theorem c202 : Go.Ev.EntOk Go.Proofs.Tryz.prog (202, f202) := ⟨Go.Proofs.Tryz.f202, Go.Proofs.Tryz.func202, by kernel_rfl, Go.Proofs.Tryz.call202⟩
def f203 : IFunc := ⟨2, [.t p4], (.seq (.ops [⟨d4,.p (.mv (.c .nils)),none⟩])
 (.seq (.ops [⟨d8,.p (.mv t0),none⟩,
⟨d9,.p (.mv t1),none⟩,
⟨d10,.call p237 [t8,t9],none⟩,
⟨d5,.p (.mv t10),none⟩])
 (.seq (.seq (.ops [⟨d11,.p (.mv t5),none⟩,
⟨d12,.p (.bin .eql t11 (.c (.int .i64 (.negSucc 0)))),none⟩])
 (.cond t12 (.seq (.ops [⟨d13,.p (.mv t0),none⟩,
⟨d4,.p (.mv t13),none⟩])
 .ret)
 .skip))
 (.seq (.seq (.ops [⟨d14,.p (.mv t5),none⟩,
⟨d15,.p (.bin .add t14 k1),none⟩,
⟨d6,.p (.mv t15),none⟩])
 (.block 0 (.loop (.seq (.seq (.ops [⟨d16,.p (.mv t6),none⟩,
⟨d17,.p (.mv t0),none⟩,
⟨d18,.p (.lenSl t17),none⟩,
⟨d19,.p (.bin .lss t16 t18),none⟩])
 (.cond t19 .skip
 (.exit 0)))
 (.seq (.block 1 (.seq (.ops [⟨d22,.p (.mv t0),none⟩,
⟨d23,.p (.mv t6),none⟩,
⟨d24,.p (.iaddrS 2 t22 t23),none⟩,
⟨d25,.r (.ldA 2 t24),none⟩,
⟨d7,.a (.alloc 178 [(.int .i64 (.ofNat 0)),(.int .i64 (.ofNat 0))]),none⟩,
⟨none,.w (.st 2 t7 t25),none⟩])
 (.seq (.ops [⟨d26,.p (.mv t1),none⟩,
⟨d27,.r (.ldA 2 t7),none⟩,
⟨d28,.callv t26 [t27],none⟩,
⟨d29,.p (.not t28),none⟩])
 (.cond t29 (.seq (.ops [⟨d30,.p (.mv t0),none⟩,
⟨d31,.p (.mv t5),none⟩,
⟨d32,.r (.ldA 2 t7),none⟩,
⟨d33,.p (.iaddrS 2 t30 t31),none⟩,
⟨none,.w (.st 2 t33 t32),none⟩])
 (.ops [⟨d34,.p (.mv t5),none⟩,
⟨d35,.p (.bin .add t34 k1),none⟩,
⟨d5,.p (.mv t35),none⟩]))
 .skip))))
 (.ops [⟨d20,.p (.mv t6),none⟩,
⟨d21,.p (.bin .add t20 k1),none⟩,
⟨d6,.p (.mv t21),none⟩]))))))
 (.seq (.ops [⟨d36,.p (.mv t0),none⟩,
⟨d37,.p (.mv t5),none⟩,
⟨d38,.p (.slSl 2 t36 (some t37) none none),none⟩,
⟨none,.w (.clearS 2 [(.int .i64 (.ofNat 0)),(.int .i64 (.ofNat 0))] t38),none⟩])
 (.seq (.ops [⟨d39,.p (.mv t0),none⟩,
⟨d40,.p (.mv t5),none⟩,
⟨d41,.p (.slSl 2 t39 none (some t40) none),none⟩,
⟨d4,.p (.mv t41),none⟩])
 .ret))))))⟩
theorem c203 : Go.Ev.EntOk Go.Proofs.Tryz.prog (203, f203) := ⟨Go.Proofs.Tryz.f203, Go.Proofs.Tryz.func203, by kernel_rfl, Go.Proofs.Tryz.call203⟩
def f204 : IFunc := ⟨2, [.t p3], (.seq (.ops [⟨d2,.a (.box 178 t0),none⟩,
⟨d3,.p (.mv (.c (.bool false))),none⟩])
 (.seq (.ops [⟨d4,.p (.faddr 0 t2),none⟩,
⟨d5,.r (.ldS t4),none⟩,
⟨d6,.r (.ldS t1),none⟩,
⟨d7,.p (.bin .eql t5 t6),none⟩,
⟨d3,.p (.mv t7),none⟩])
 .ret))⟩
theorem c204 : Go.Ev.EntOk Go.Proofs.Tryz.prog (204, f204) := ⟨Go.Proofs.Tryz.f204, Go.Proofs.Tryz.func204, by kernel_rfl, Go.Proofs.Tryz.call204⟩
def f205 : IFunc := ⟨2, [.cA p4 2,.t p5], (.seq (.ops [⟨d4,.a (.alloc 49 [(.int .i64 (.ofNat 0)),.nils]),none⟩,
⟨d5,.p (.mv k0),none⟩])
 (.seq (.ops [⟨d6,.p (.mv (.c (.fn p238 [] []))),none⟩])
 (.seq (.ops [⟨d14,.p (.mv t6),none⟩,
⟨d15,.p (.mv t0),none⟩,
⟨d16,.callv t14 [t15],none⟩,
⟨d7,.p (.mv t16),none⟩])
 (.seq (.seq (.ops [⟨d17,.p (.mv t1),none⟩,
⟨d18,.p (.lenSl t17),none⟩,
⟨d19,.p (.mv k0),none⟩])
 (.block 0 (.loop (.seq (.ops [⟨d20,.p (.bin .lss t19 t18),none⟩])
 (.seq (.cond t20 .skip
 (.exit 0))
 (.seq (.block 1 (.seq (.ops [⟨d21,.p (.iaddrS 2 t17 t19),none⟩,
⟨d22,.r (.ldA 2 t21),none⟩,
⟨d9,.a (.alloc 178 [(.int .i64 (.ofNat 0)),(.int .i64 (.ofNat 0))]),none⟩,
⟨none,.w (.st 2 t9 t22),none⟩])
 (.ops [⟨d23,.p (.mv t7),none⟩,
⟨d24,.p (.mv t23),none⟩,
⟨d25,.p (.mv t6),(some (p24, false))⟩,
⟨d26,.p (.faddr 1 t9),(some (p24, false))⟩,
⟨d27,.r (.ldS t26),(some (p24, false))⟩,
⟨d28,.callv t25 [t27],(some (p24, false))⟩,
⟨d29,.p (.pick t24 (.c (.bool true)) t28),none⟩,
⟨d30,.p (.mv t29),none⟩,
⟨d31,.p (.faddr 0 t9),(some (p30, false))⟩,
⟨d32,.r (.ldS t31),(some (p30, false))⟩,
⟨d33,.p (.bin .lss t32 k1),(some (p30, false))⟩,
⟨d34,.p (.pick t30 (.c (.bool true)) t33),none⟩,
⟨d35,.p (.mv t34),none⟩,
⟨d36,.p (.faddr 0 t9),(some (p35, false))⟩,
⟨d37,.r (.ldS t36),(some (p35, false))⟩,
⟨d38,.p (.bin .gtr t37 (.c (.int .i64 (.ofNat 2305843009213693951)))),(some (p35, false))⟩,
⟨d39,.p (.pick t35 (.c (.bool true)) t38),none⟩,
⟨d7,.p (.mv t39),none⟩])))
 (.ops [⟨d40,.p (.bin .add t19 k1),none⟩,
⟨d19,.p (.mv t40),none⟩])))))))
 (.seq (.seq (.ops [⟨d41,.p (.mv t7),none⟩])
 (.cond t41 (.seq (.ops [⟨d42,.p (.build [(.int .i64 (.ofNat 0)),.nils] []),none⟩,
⟨none,.w (.st 2 t4 t42),none⟩,
⟨d5,.p (.mv k1),none⟩])
 .ret)
 .skip))
 (.seq (.ops [⟨d43,.p (.mv t1),none⟩,
⟨d44,.call p123 [t43],none⟩,
⟨d10,.p (.mv t44),none⟩])
 (.seq (.ops [⟨d45,.p (.mv t10),none⟩,
⟨d46,.call p239 [t45,(.c (.fn p240 [] []))],none⟩])
 (.seq (.ops [⟨d47,.p (.mv t10),none⟩,
⟨d48,.call p242 [t47],none⟩,
⟨d10,.p (.mv t48),none⟩])
 (.seq (.ops [⟨d49,.p (.mv t0),none⟩,
⟨d50,.p (.build [(.int .i64 (.ofNat 0)),.nils] [(0, 1, t49)]),none⟩,
⟨d11,.a (.alloc 49 [(.int .i64 (.ofNat 0)),.nils]),none⟩,
⟨none,.w (.st 2 t11 t50),none⟩])
 (.seq (.seq (.ops [⟨d51,.p (.mv t10),none⟩,
⟨d52,.p (.lenSl t51),none⟩,
⟨d53,.p (.mv k0),none⟩])
 (.block 2 (.loop (.seq (.ops [⟨d54,.p (.bin .lss t53 t52),none⟩])
 (.seq (.cond t54 .skip
 (.exit 2))
 (.seq (.block 3 (.seq (.ops [⟨d55,.p (.mv t53),none⟩,
⟨d56,.p (.iaddrS 2 t51 t53),none⟩,
⟨d57,.r (.ldA 2 t56),none⟩,
⟨d13,.a (.alloc 178 [(.int .i64 (.ofNat 0)),(.int .i64 (.ofNat 0))]),none⟩,
⟨d12,.p (.mv t55),none⟩,
⟨none,.w (.st 2 t13 t57),none⟩])
 (.seq (.seq (.reg [⟨[0],⟨d58,.p (.mv t12),none⟩,0,0⟩,
⟨[1],⟨d59,.p (.bin .gtr t58 k0),none⟩,0,0⟩,
⟨[2],⟨d60,.p (.mv t59),none⟩,0,0⟩,
⟨[3],⟨d61,.p (.mv t10),(some (p60, true))⟩,0,0⟩,
⟨[4],⟨d62,.p (.mv t12),(some (p60, true))⟩,0,0⟩,
⟨[5],⟨d63,.p (.bin .sub t62 k1),(some (p60, true))⟩,0,0⟩,
⟨[6],⟨d64,.p (.iaddrS 2 t61 t63),(some (p60, true))⟩,0,0⟩,
⟨[7],⟨d65,.p (.faddr 0 t64),(some (p60, true))⟩,0,0⟩,
⟨[8],⟨d66,.r (.ldS t65),(some (p60, true))⟩,0,0⟩,
⟨[9],⟨d67,.p (.faddr 0 t13),(some (p60, true))⟩,0,0⟩,
⟨[10],⟨d68,.r (.ldS t67),(some (p60, true))⟩,0,0⟩,
⟨[11],⟨d69,.p (.bin .eql t66 t68),(some (p60, true))⟩,0,0⟩,
⟨[12],⟨d70,.p (.pick t60 t69 (.c (.bool false))),none⟩,0,0⟩])
 (.cond t70 (.seq (.ops [⟨d71,.p (.build [(.int .i64 (.ofNat 0)),.nils] []),none⟩,
⟨none,.w (.st 2 t4 t71),none⟩,
⟨d5,.p (.mv k2),none⟩])
 .ret)
 .skip))
 (.seq (.ops [⟨d72,.p (.faddr 1 t13),none⟩,
⟨d73,.r (.ldS t72),none⟩,
⟨d74,.p (.mv t0),none⟩,
⟨d75,.p (.bin .neq t73 t74),none⟩])
 (.cond t75 (.ops [⟨d76,.p (.faddr 1 t11),none⟩,
⟨d77,.r (.ldS t76),none⟩,
⟨d78,.r (.ldA 2 t13),none⟩,
⟨d79,.a (.bslice 178 2 1 [(.int .i64 (.ofNat 0)),(.int .i64 (.ofNat 0))] [(0, 2, t78)]),none⟩,
⟨d80,.w (.app 178 2 16 t77 t79),none⟩,
⟨d81,.p (.faddr 1 t11),none⟩,
⟨none,.w (.st 1 t81 t80),none⟩])
 .skip)))))
 (.ops [⟨d82,.p (.bin .add t53 k1),none⟩,
⟨d53,.p (.mv t82),none⟩])))))))
 (.seq (.ops [⟨d83,.r (.ldA 2 t11),none⟩,
⟨d84,.call p243 [t83],none⟩,
⟨d85,.p (.ext t84 0),none⟩,
⟨d86,.p (.ext t84 1),none⟩,
⟨none,.w (.st 2 t4 t85),none⟩,
⟨d5,.p (.mv t86),none⟩])
 .ret)))))))))))⟩
theorem c205 : Go.Ev.EntOk Go.Proofs.Tryz.prog (205, f205) := ⟨Go.Proofs.Tryz.f205, Go.Proofs.Tryz.func205, by kernel_rfl, Go.Proofs.Tryz.call205⟩
def f206 : IFunc := ⟨2, [.t p4], (.seq (.ops [⟨d2,.a (.box 49 t0),none⟩,
⟨d3,.a (.box 3 t1),none⟩,
⟨d4,.p (.mv (.c (.bool false))),none⟩])
 (.seq (.ops [⟨d5,.p (.faddr 0 t2),none⟩,
⟨d6,.r (.ldS t5),none⟩,
⟨d7,.r (.ldS t3),none⟩,
⟨d8,.p (.bin .eql t6 t7),none⟩,
⟨d9,.p (.mv t8),none⟩,
⟨d10,.p (.faddr 1 t2),(some (p9, false))⟩,
⟨d11,.r (.ldS t10),(some (p9, false))⟩,
⟨d12,.p (.mkfn p245 [] [t3]),(some (p9, false))⟩,
⟨d13,.call p244 [t11,t12],(some (p9, false))⟩,
⟨d14,.p (.pick t9 (.c (.bool true)) t13),none⟩,
⟨d4,.p (.mv t14),none⟩])
 .ret))⟩
theorem c206 : Go.Ev.EntOk Go.Proofs.Tryz.prog (206, f206) := ⟨Go.Proofs.Tryz.f206, Go.Proofs.Tryz.func206, by kernel_rfl, Go.Proofs.Tryz.call206⟩
def f207 : IFunc := ⟨2, [.t p4], (.seq (.ops [⟨d2,.a (.box 49 t0),none⟩,
⟨d3,.a (.box 49 t1),none⟩,
⟨d4,.p (.mv (.c .nilf)),none⟩])
 (.seq (.ops [⟨d5,.p (.mkfn p246 [] [t2,t3]),none⟩,
⟨d4,.p (.mv t5),none⟩])
 .ret))⟩
theorem c207 : Go.Ev.EntOk Go.Proofs.Tryz.prog (207, f207) := ⟨Go.Proofs.Tryz.f207, Go.Proofs.Tryz.func207, by kernel_rfl, Go.Proofs.Tryz.call207⟩
def f208 : IFunc := ⟨2, [.t p3], (.seq (.ops [⟨d3,.p (.mv k0),none⟩])
 (.seq (.ops [⟨d4,.p (.mv k0),none⟩])
 (.seq (.seq (.ops [⟨d7,.r (.ldS t1),none⟩,
⟨d8,.p (.lenSl t7),none⟩,
⟨d9,.p (.mv k0),none⟩])
 (.block 0 (.loop (.seq (.ops [⟨d10,.p (.bin .lss t9 t8),none⟩])
 (.seq (.cond t10 .skip
 (.exit 0))
 (.seq (.block 1 (.seq (.ops [⟨d11,.p (.iaddrS 2 t7 t9),none⟩,
⟨d12,.r (.ldA 2 t11),none⟩,
⟨d6,.a (.alloc 49 [(.int .i64 (.ofNat 0)),.nils]),none⟩,
⟨none,.w (.st 2 t6 t12),none⟩])
 (.ops [⟨d13,.p (.mv t4),none⟩,
⟨d14,.p (.mv t0),none⟩,
⟨d15,.r (.ldA 2 t6),none⟩,
⟨d16,.callv t14 [t15],none⟩,
⟨d17,.p (.mx t13 t16),none⟩,
⟨d4,.p (.mv t17),none⟩])))
 (.ops [⟨d18,.p (.bin .add t9 k1),none⟩,
⟨d9,.p (.mv t18),none⟩])))))))
 (.seq (.ops [⟨d19,.p (.mv t4),none⟩,
⟨d3,.p (.mv t19),none⟩])
 .ret))))⟩
theorem c208 : Go.Ev.EntOk Go.Proofs.Tryz.prog (208, f208) := ⟨Go.Proofs.Tryz.f208, Go.Proofs.Tryz.func208, by kernel_rfl, Go.Proofs.Tryz.call208⟩
def f209 : IFunc := ⟨3, [.t p4], (.seq (.ops [⟨d4,.p (.mv (.c (.bool false))),none⟩])
 (.seq (.reg [⟨[0],⟨d5,.p (.mv t0),none⟩,0,0⟩,
⟨[1],⟨d6,.r (.ldA 2 t1),none⟩,0,0⟩,
⟨[2],⟨d7,.callv t5 [t6],none⟩,0,0⟩,
⟨[3],⟨d8,.r (.ldS t2),none⟩,0,1⟩,
⟨[4],⟨d9,.p (.mv t0),none⟩,0,1⟩,
⟨[5],⟨d10,.callv t8 [t9],none⟩,1,1⟩,
⟨[6],⟨d11,.p (.bin .leq t7 t10),none⟩,2,2⟩,
⟨[7],⟨d4,.p (.mv t11),none⟩,2,2⟩])
 .ret))⟩
theorem c209 : Go.Ev.EntOk Go.Proofs.Tryz.prog (209, f209) := ⟨Go.Proofs.Tryz.f209, Go.Proofs.Tryz.func209, by kernel_rfl, Go.Proofs.Tryz.call209⟩
def f210 : IFunc := ⟨2, [.t p3], (.seq (.ops [⟨d2,.a (.box 49 t0),none⟩,
⟨d3,.p (.mv k0),none⟩])
 (.seq (.ops [⟨d4,.r (.ldA 2 t2),none⟩,
⟨d5,.p (.faddr 0 t1),none⟩,
⟨d6,.r (.ldS t5),none⟩,
⟨d7,.call p194 [t4,t6],none⟩,
⟨d3,.p (.mv t7),none⟩])
 .ret))⟩
theorem c210 : Go.Ev.EntOk Go.Proofs.Tryz.prog (210, f210) := ⟨Go.Proofs.Tryz.f210, Go.Proofs.Tryz.func210, by kernel_rfl, Go.Proofs.Tryz.call210⟩
def f211 : IFunc := ⟨1, [.t p2], (.seq (.ops [⟨d1,.a (.box 49 t0),none⟩,
⟨d2,.p (.mv k0),none⟩])
 (.seq (.ops [⟨d3,.p (.faddr 0 t1),none⟩,
⟨d4,.r (.ldS t3),none⟩,
⟨d2,.p (.mv t4),none⟩])
 .ret))⟩
theorem c211 : Go.Ev.EntOk Go.Proofs.Tryz.prog (211, f211) := ⟨Go.Proofs.Tryz.f211, Go.Proofs.Tryz.func211, by kernel_rfl, Go.Proofs.Tryz.call211⟩
def f212 : IFunc := ⟨3, [.cA p6 2], (.seq (.ops [⟨d3,.a (.box 49 t0),none⟩,
⟨d4,.a (.box 3 t1),none⟩,
⟨d5,.a (.box 3 t2),none⟩,
⟨d6,.a (.alloc 49 [(.int .i64 (.ofNat 0)),.nils]),none⟩])
 (.seq (.ops [⟨d12,.p (.mkfn p247 [] [t4,t5]),none⟩,
⟨d7,.p (.mv t12),none⟩])
 (.seq (.ops [⟨d13,.p (.mv t7),none⟩,
⟨d14,.p (.faddr 0 t3),none⟩,
⟨d15,.r (.ldS t14),none⟩,
⟨d16,.callv t13 [t15],none⟩,
⟨d17,.p (.build [(.int .i64 (.ofNat 0)),.nils] [(0, 1, t16)]),none⟩,
⟨d8,.a (.alloc 49 [(.int .i64 (.ofNat 0)),.nils]),none⟩,
⟨none,.w (.st 2 t8 t17),none⟩])
 (.seq (.seq (.ops [⟨d18,.p (.faddr 1 t3),none⟩,
⟨d19,.r (.ldS t18),none⟩,
⟨d20,.p (.lenSl t19),none⟩,
⟨d21,.p (.mv k0),none⟩])
 (.block 0 (.loop (.seq (.ops [⟨d22,.p (.bin .lss t21 t20),none⟩])
 (.seq (.cond t22 .skip
 (.exit 0))
 (.seq (.block 1 (.seq (.ops [⟨d23,.p (.iaddrS 2 t19 t21),none⟩,
⟨d24,.r (.ldA 2 t23),none⟩,
⟨d10,.a (.alloc 178 [(.int .i64 (.ofNat 0)),(.int .i64 (.ofNat 0))]),none⟩,
⟨none,.w (.st 2 t10 t24),none⟩])
 (.seq (.ops [⟨d25,.p (.mv t7),none⟩,
⟨d26,.p (.faddr 1 t10),none⟩,
⟨d27,.r (.ldS t26),none⟩,
⟨d28,.callv t25 [t27],none⟩,
⟨d11,.p (.mv t28),none⟩])
 (.seq (.ops [⟨d29,.p (.mv t11),none⟩,
⟨d30,.p (.faddr 0 t8),none⟩,
⟨d31,.r (.ldS t30),none⟩,
⟨d32,.p (.bin .neq t29 t31),none⟩])
 (.cond t32 (.ops [⟨d33,.p (.faddr 1 t8),none⟩,
⟨d34,.r (.ldS t33),none⟩,
⟨d35,.p (.faddr 0 t10),none⟩,
⟨d36,.r (.ldS t35),none⟩,
⟨d37,.p (.mv t11),none⟩,
⟨d38,.p (.build [(.int .i64 (.ofNat 0)),(.int .i64 (.ofNat 0))] [(0, 1, t36),(1, 1, t37)]),none⟩,
⟨d39,.a (.bslice 178 2 1 [(.int .i64 (.ofNat 0)),(.int .i64 (.ofNat 0))] [(0, 2, t38)]),none⟩,
⟨d40,.w (.app 178 2 16 t34 t39),none⟩,
⟨d41,.p (.faddr 1 t8),none⟩,
⟨none,.w (.st 1 t41 t40),none⟩])
 .skip)))))
 (.ops [⟨d42,.p (.bin .add t21 k1),none⟩,
⟨d21,.p (.mv t42),none⟩])))))))
 (.seq (.ops [⟨d43,.r (.ldA 2 t8),none⟩,
⟨none,.w (.st 2 t6 t43),none⟩])
 .ret)))))⟩
theorem c212 : Go.Ev.EntOk Go.Proofs.Tryz.prog (212, f212) := ⟨Go.Proofs.Tryz.f212, Go.Proofs.Tryz.func212, by kernel_rfl, Go.Proofs.Tryz.call212⟩
def f213 : IFunc := ⟨2, [.t p4], (.seq (.ops [⟨d4,.p (.mv (.c (.bool false))),none⟩])
 (.seq (.ops [⟨d5,.p (.mv t0),none⟩,
⟨d6,.p (.mv t1),none⟩,
⟨d7,.call p248 [t5,t6],none⟩,
⟨d8,.p (.bin .geq t7 k0),none⟩,
⟨d4,.p (.mv t8),none⟩])
 .ret))⟩
theorem c213 : Go.Ev.EntOk Go.Proofs.Tryz.prog (213, f213) := ⟨Go.Proofs.Tryz.f213, Go.Proofs.Tryz.func213, by kernel_rfl, Go.Proofs.Tryz.call213⟩
def f214 : IFunc := ⟨2, [], (.ops [⟨d4,.p (.mv t0),none⟩,
⟨d5,.p (.mv t0),none⟩,
⟨d6,.p (.nilck t5),none⟩,
⟨d7,.p (.faddr 0 t6),none⟩,
⟨d8,.r (.ldS t7),none⟩,
⟨d9,.p (.mv t1),none⟩,
⟨d10,.a (.bslice 3 1 1 [(.int .i64 (.ofNat 0))] [(0, 1, t9)]),none⟩,
⟨d11,.w (.app 3 1 8 t8 t10),none⟩,
⟨d12,.p (.nilck t4),none⟩,
⟨d13,.p (.faddr 0 t12),none⟩,
⟨none,.w (.st 1 t13 t11),none⟩])⟩
theorem c214 : Go.Ev.EntOk Go.Proofs.Tryz.prog (214, f214) := ⟨Go.Proofs.Tryz.f214, Go.Proofs.Tryz.func214, by kernel_rfl, Go.Proofs.Tryz.call214⟩
def f215 : IFunc := ⟨2, [], (.seq (.ops [⟨d3,.a (.box 3 t1),none⟩])
 (.ops [⟨d4,.p (.mv t0),none⟩,
⟨d5,.p (.mv t0),none⟩,
⟨d6,.p (.nilck t5),none⟩,
⟨d7,.p (.faddr 0 t6),none⟩,
⟨d8,.r (.ldS t7),none⟩,
⟨d9,.p (.mkfn p250 [] [t3]),none⟩,
⟨d10,.call p249 [t8,t9],none⟩,
⟨d11,.p (.nilck t4),none⟩,
⟨d12,.p (.faddr 0 t11),none⟩,
⟨none,.w (.st 1 t12 t10),none⟩]))⟩
theorem c215 : Go.Ev.EntOk Go.Proofs.Tryz.prog (215, f215) := ⟨Go.Proofs.Tryz.f215, Go.Proofs.Tryz.func215, by kernel_rfl, Go.Proofs.Tryz.call215⟩
def f216 : IFunc := ⟨2, [], (.seq (.ops [⟨d4,.r (.ldS t1),none⟩,
⟨d5,.p (.lenSl t4),none⟩,
⟨d6,.p (.bin .sub t5 k1),none⟩,
⟨d3,.p (.mv t6),none⟩])
 (.block 0 (.loop (.seq (.seq (.ops [⟨d7,.p (.mv t3),none⟩,
⟨d8,.p (.bin .geq t7 k0),none⟩])
 (.cond t8 .skip
 (.exit 0)))
 (.seq (.block 1 (.seq (.ops [⟨d11,.p (.mv t0),none⟩,
⟨d12,.p (.mv t3),none⟩,
⟨d13,.r (.ldS t1),none⟩,
⟨d14,.p (.mv t3),none⟩,
⟨d15,.p (.iaddrS 1 t13 t14),none⟩,
⟨d16,.r (.ldS t15),none⟩,
⟨d17,.callv t11 [t12,t16],none⟩,
⟨d18,.p (.not t17),none⟩])
 (.cond t18 .ret
 .skip)))
 (.ops [⟨d9,.p (.mv t3),none⟩,
⟨d10,.p (.bin .sub t9 k1),none⟩,
⟨d3,.p (.mv t10),none⟩]))))))⟩
theorem c216 : Go.Ev.EntOk Go.Proofs.Tryz.prog (216, f216) := ⟨Go.Proofs.Tryz.f216, Go.Proofs.Tryz.func216, by kernel_rfl, Go.Proofs.Tryz.call216⟩
def f217 : IFunc := ⟨2, [.t p4], (.seq (.ops [⟨d2,.a (.box 137 t0),none⟩,
⟨d4,.p (.mv (.c .nils)),none⟩])
 (.seq (.seq (.ops [⟨d8,.r (.ldS t2),none⟩,
⟨d9,.p (.eqp false t8 (.c .nilp)),none⟩])
 (.cond t9 (.seq (.ops [⟨d4,.p (.mv (.c .nils)),none⟩])
 .ret)
 .skip))
 (.seq (.ops [⟨d5,.p (.mv (.c .nils)),none⟩])
 (.seq (.seq (.ops [⟨d10,.r (.ldS t2),none⟩,
⟨d11,.p (.nilck t10),none⟩,
⟨d12,.p (.faddr 1 t11),none⟩,
⟨d13,.r (.ldS t12),none⟩,
⟨d14,.w (.range t13),none⟩])
 (.block 0 (.loop (.seq (.ops [⟨d15,.w (.next t14),none⟩,
⟨d16,.p (.ext t15 0),none⟩])
 (.seq (.cond t16 .skip
 (.exit 0))
 (.block 1 (.seq (.ops [⟨d17,.r (.entry t14),none⟩,
⟨d18,.p (.ext t17 0),none⟩,
⟨d19,.p (.ext t17 1),none⟩,
⟨d7,.a (.alloc 275 [(.int .i64 (.ofNat 0)),(.int .i64 (.ofNat 0)),(.int .i64 (.ofNat 0))]),none⟩,
⟨d6,.p (.mv t18),none⟩,
⟨none,.w (.st 3 t7 t19),none⟩])
 (.seq (.ops [⟨d20,.p (.mv t1),none⟩,
⟨d21,.p (.faddr 0 t7),none⟩,
⟨d22,.r (.ldA 2 t21),none⟩,
⟨d23,.callv t20 [t22],none⟩])
 (.cond t23 (.ops [⟨d24,.p (.mv t5),none⟩,
⟨d25,.p (.mv t6),none⟩,
⟨d26,.a (.bslice 3 1 1 [(.int .i64 (.ofNat 0))] [(0, 1, t25)]),none⟩,
⟨d27,.w (.app 3 1 8 t24 t26),none⟩,
⟨d5,.p (.mv t27),none⟩])
 .skip)))))))))
 (.seq (.ops [⟨d28,.p (.mv t5),none⟩,
⟨d29,.p (.mkfn p252 [] [t2]),none⟩,
⟨d30,.call p251 [t28,t29],none⟩])
 (.seq (.ops [⟨d31,.p (.mv t5),none⟩,
⟨d4,.p (.mv t31),none⟩])
 .ret))))))⟩
theorem c217 : Go.Ev.EntOk Go.Proofs.Tryz.prog (217, f217) := ⟨Go.Proofs.Tryz.f217, Go.Proofs.Tryz.func217, by kernel_rfl, Go.Proofs.Tryz.call217⟩
def f218 : IFunc := ⟨2, [.t p3], (.seq (.ops [⟨d2,.a (.box 273 t0),none⟩,
⟨d3,.p (.mv (.c (.bool false))),none⟩])
 (.seq (.ops [⟨d4,.p (.faddr 0 t2),none⟩,
⟨d5,.r (.ldS t4),none⟩,
⟨d6,.r (.ldS t1),none⟩,
⟨d7,.p (.bin .eql t5 t6),none⟩,
⟨d3,.p (.mv t7),none⟩])
 .ret))⟩
theorem c218 : Go.Ev.EntOk Go.Proofs.Tryz.prog (218, f218) := ⟨Go.Proofs.Tryz.f218, Go.Proofs.Tryz.func218, by kernel_rfl, Go.Proofs.Tryz.call218⟩
def f221 : IFunc := ⟨3, [.t p4], (.seq (.ops [⟨d3,.a (.box 273 t0),none⟩,
⟨d4,.p (.mv (.c (.bool false))),none⟩])
 (.seq (.ops [⟨d5,.r (.ldA 2 t3),none⟩,
⟨d6,.r (.ldS t1),none⟩,
⟨d7,.r (.ldS t2),none⟩,
⟨d8,.p (.build [(.int .i64 (.ofNat 0)),(.int .i64 (.ofNat 0))] [(0, 1, t6),(1, 1, t7)]),none⟩,
⟨d9,.p (.eqa false [.i,.i] t5 t8),none⟩,
⟨d4,.p (.mv t9),none⟩])
 .ret))⟩
theorem c221 : Go.Ev.EntOk Go.Proofs.Tryz.prog (221, f221) := ⟨Go.Proofs.Tryz.f221, Go.Proofs.Tryz.func221, by kernel_rfl, Go.Proofs.Tryz.call221⟩
def f226 : IFunc := ⟨1, [.t p2], (.seq (.ops [⟨d2,.p (.mv (.c (.bool false))),none⟩])
 (.seq (.ops [⟨d3,.p (.mv t0),none⟩,
⟨d4,.p (.mv t0),none⟩,
⟨d5,.p (.bin .neq t3 t4),none⟩,
⟨d2,.p (.mv t5),none⟩])
 .ret))⟩
theorem c226 : Go.Ev.EntOk Go.Proofs.Tryz.prog (226, f226) := ⟨Go.Proofs.Tryz.f226, Go.Proofs.Tryz.func226, by kernel_rfl, Go.Proofs.Tryz.call226⟩
def f228 : IFunc := ⟨1, [.t p2], (.seq (.ops [⟨d2,.p (.mv k0),none⟩])
 (.seq (.seq (.ops [⟨d3,.p (.mv t0),none⟩])
 (.block 0 (.seq (.seq (.ops [⟨d5,.p (.bin .eql t3 k0),none⟩,
⟨d4,.p (.mv t5),none⟩])
 (.cond t4 .skip
 (.ops [⟨d6,.p (.bin .eql t3 k11),none⟩,
⟨d4,.p (.mv t6),none⟩])))
 (.cond t4 (.seq (.ops [⟨d7,.p (.mv t0),none⟩,
⟨d2,.p (.mv t7),none⟩])
 .ret)
 (.seq (.seq (.ops [⟨d9,.p (.bin .eql t3 k3),none⟩,
⟨d8,.p (.mv t9),none⟩])
 (.cond t8 .skip
 (.ops [⟨d10,.p (.bin .eql t3 k4),none⟩,
⟨d8,.p (.mv t10),none⟩])))
 (.cond t8 (.seq (.ops [⟨d2,.p (.mv k26),none⟩])
 .ret)
 (.seq (.seq (.ops [⟨d12,.p (.bin .eql t3 k6),none⟩,
⟨d11,.p (.mv t12),none⟩])
 (.cond t11 .skip
 (.ops [⟨d13,.p (.bin .eql t3 k7),none⟩,
⟨d11,.p (.mv t13),none⟩])))
 (.cond t11 (.seq (.ops [⟨d2,.p (.mv k27),none⟩])
 .ret)
 .skip))))))))
 (.seq (.ops [⟨d2,.p (.mv k31),none⟩])
 .ret)))⟩
theorem c228 : Go.Ev.EntOk Go.Proofs.Tryz.prog (228, f228) := ⟨Go.Proofs.Tryz.f228, Go.Proofs.Tryz.func228, by kernel_rfl, Go.Proofs.Tryz.call228⟩
def f229 : IFunc := ⟨1, [.t p2], (.seq (.ops [⟨d1,.a (.box 49 t0),none⟩,
⟨d2,.p (.mv (.c (.bool false))),none⟩])
 (.seq (.ops [⟨d3,.r (.ldA 2 t1),none⟩,
⟨d4,.call p255 [t3],none⟩,
⟨d5,.p (.mv t4),none⟩,
⟨d6,.r (.ldA 2 t1),(some (p5, true))⟩,
⟨d7,.call p230 [t6,k5],(some (p5, true))⟩,
⟨d8,.p (.not t7),(some (p5, true))⟩,
⟨d9,.p (.pick t5 t8 (.c (.bool false))),none⟩,
⟨d2,.p (.mv t9),none⟩])
 .ret))⟩
theorem c229 : Go.Ev.EntOk Go.Proofs.Tryz.prog (229, f229) := ⟨Go.Proofs.Tryz.f229, Go.Proofs.Tryz.func229, by kernel_rfl, Go.Proofs.Tryz.call229⟩
def f230 : IFunc := ⟨2, [.t p4], (.seq (.ops [⟨d2,.a (.box 49 t0),none⟩,
⟨d4,.p (.mv (.c (.bool false))),none⟩])
 (.seq (.seq (.ops [⟨d7,.p (.faddr 1 t2),none⟩,
⟨d8,.r (.ldS t7),none⟩,
⟨d9,.p (.lenSl t8),none⟩,
⟨d10,.p (.mv k0),none⟩])
 (.block 0 (.loop (.seq (.ops [⟨d11,.p (.bin .lss t10 t9),none⟩])
 (.seq (.cond t11 .skip
 (.exit 0))
 (.seq (.block 1 (.seq (.ops [⟨d12,.p (.iaddrS 2 t8 t10),none⟩,
⟨d13,.r (.ldA 2 t12),none⟩,
⟨d6,.a (.alloc 178 [(.int .i64 (.ofNat 0)),(.int .i64 (.ofNat 0))]),none⟩,
⟨none,.w (.st 2 t6 t13),none⟩])
 (.seq (.ops [⟨d14,.p (.faddr 1 t6),none⟩,
⟨d15,.r (.ldS t14),none⟩,
⟨d16,.p (.mv t1),none⟩,
⟨d17,.p (.bin .eql t15 t16),none⟩])
 (.cond t17 (.seq (.ops [⟨d4,.p (.mv (.c (.bool true))),none⟩])
 .ret)
 .skip))))
 (.ops [⟨d18,.p (.bin .add t10 k1),none⟩,
⟨d10,.p (.mv t18),none⟩])))))))
 (.seq (.ops [⟨d19,.p (.faddr 0 t2),none⟩,
⟨d20,.r (.ldS t19),none⟩,
⟨d21,.p (.mv t1),none⟩,
⟨d22,.p (.bin .eql t20 t21),none⟩,
⟨d4,.p (.mv t22),none⟩])
 .ret)))⟩
theorem c230 : Go.Ev.EntOk Go.Proofs.Tryz.prog (230, f230) := ⟨Go.Proofs.Tryz.f230, Go.Proofs.Tryz.func230, by kernel_rfl, Go.Proofs.Tryz.call230⟩
def f231 : IFunc := ⟨1, [.t p2], (.seq (.ops [⟨d2,.p (.mv k0),none⟩])
 (.seq (.seq (.ops [⟨d3,.p (.mv t0),none⟩])
 (.cond t3 (.seq (.ops [⟨d2,.p (.mv k0),none⟩])
 .ret)
 .skip))
 (.seq (.ops [⟨d2,.p (.mv k3),none⟩])
 .ret)))⟩
theorem c231 : Go.Ev.EntOk Go.Proofs.Tryz.prog (231, f231) := ⟨Go.Proofs.Tryz.f231, Go.Proofs.Tryz.func231, by kernel_rfl, Go.Proofs.Tryz.call231⟩
def f232 : IFunc := ⟨2, [.t p4], (.seq (.ops [⟨d2,.a (.box 49 t0),none⟩,
⟨d3,.a (.box 49 t1),none⟩,
⟨d4,.p (.mv (.c (.bool false))),none⟩])
 (.seq (.ops [⟨d5,.r (.ldA 2 t2),none⟩,
⟨d6,.r (.ldA 2 t3),none⟩,
⟨d7,.call p233 [t5,t6],none⟩,
⟨d8,.p (.mv t7),none⟩,
⟨d9,.r (.ldA 2 t2),(some (p8, true))⟩,
⟨d10,.r (.ldA 2 t3),(some (p8, true))⟩,
⟨d11,.call p256 [t9,t10],(some (p8, true))⟩,
⟨d12,.p (.pick t8 t11 (.c (.bool false))),none⟩,
⟨d4,.p (.mv t12),none⟩])
 .ret))⟩
theorem c232 : Go.Ev.EntOk Go.Proofs.Tryz.prog (232, f232) := ⟨Go.Proofs.Tryz.f232, Go.Proofs.Tryz.func232, by kernel_rfl, Go.Proofs.Tryz.call232⟩
def f233 : IFunc := ⟨2, [.t p4], (.seq (.ops [⟨d2,.a (.box 49 t0),none⟩,
⟨d3,.a (.box 49 t1),none⟩,
⟨d4,.p (.mv (.c (.bool false))),none⟩])
 (.seq (.seq (.ops [⟨d7,.r (.ldA 2 t2),none⟩,
⟨d8,.r (.ldA 2 t3),none⟩,
⟨d9,.a (.bslice 49 2 2 [(.int .i64 (.ofNat 0)),.nils,(.int .i64 (.ofNat 0)),.nils] [(0, 2, t7),(2, 2, t8)]),none⟩,
⟨d10,.call p257 [t9],none⟩,
⟨d11,.p (.lenSl t10),none⟩,
⟨d12,.p (.mv k0),none⟩])
 (.block 0 (.loop (.seq (.ops [⟨d13,.p (.bin .lss t12 t11),none⟩])
 (.seq (.cond t13 .skip
 (.exit 0))
 (.seq (.block 1 (.seq (.ops [⟨d14,.p (.iaddrS 1 t10 t12),none⟩,
⟨d15,.r (.ldS t14),none⟩,
⟨d6,.p (.mv t15),none⟩])
 (.seq (.reg [⟨[0],⟨d16,.r (.ldA 2 t2),none⟩,0,0⟩,
⟨[1],⟨d17,.p (.mv t6),none⟩,0,0⟩,
⟨[2],⟨d18,.call p258 [t16,t17],none⟩,0,0⟩,
⟨[3],⟨d19,.r (.ldA 2 t3),none⟩,0,1⟩,
⟨[4],⟨d20,.p (.mv t6),none⟩,0,1⟩,
⟨[5],⟨d21,.call p258 [t19,t20],none⟩,1,1⟩,
⟨[6],⟨d22,.p (.bin .gtr t18 t21),none⟩,2,2⟩])
 (.cond t22 (.seq (.ops [⟨d4,.p (.mv (.c (.bool false))),none⟩])
 .ret)
 .skip))))
 (.ops [⟨d23,.p (.bin .add t12 k1),none⟩,
⟨d12,.p (.mv t23),none⟩])))))))
 (.seq (.ops [⟨d24,.p (.faddr 0 t2),none⟩,
⟨d25,.r (.ldS t24),none⟩,
⟨d26,.p (.faddr 0 t3),none⟩,
⟨d27,.r (.ldS t26),none⟩,
⟨d28,.p (.bin .leq t25 t27),none⟩,
⟨d4,.p (.mv t28),none⟩])
 .ret)))⟩
theorem c233 : Go.Ev.EntOk Go.Proofs.Tryz.prog (233, f233) := ⟨Go.Proofs.Tryz.f233, Go.Proofs.Tryz.func233, by kernel_rfl, Go.Proofs.Tryz.call233⟩
def f234 : IFunc := ⟨3, [.t p6], (.seq (.ops [⟨d3,.a (.box 49 t0),none⟩,
⟨d4,.a (.box 49 t1),none⟩,
⟨d5,.a (.box 49 t2),none⟩,
⟨d6,.p (.mv (.c (.bool false))),none⟩])
 (.seq (.seq (.ops [⟨d9,.r (.ldA 2 t3),none⟩,
⟨d10,.r (.ldA 2 t4),none⟩,
⟨d11,.r (.ldA 2 t5),none⟩,
⟨d12,.a (.bslice 49 2 3 [(.int .i64 (.ofNat 0)),.nils,(.int .i64 (.ofNat 0)),.nils,(.int .i64 (.ofNat 0)),.nils] [(0, 2, t9),(2, 2, t10),(4, 2, t11)]),none⟩,
⟨d13,.call p259 [t12],none⟩,
⟨d14,.p (.lenSl t13),none⟩,
⟨d15,.p (.mv k0),none⟩])
 (.block 0 (.loop (.seq (.ops [⟨d16,.p (.bin .lss t15 t14),none⟩])
 (.seq (.cond t16 .skip
 (.exit 0))
 (.seq (.block 1 (.seq (.ops [⟨d17,.p (.iaddrS 1 t13 t15),none⟩,
⟨d18,.r (.ldS t17),none⟩,
⟨d8,.p (.mv t18),none⟩])
 (.seq (.reg [⟨[0],⟨d19,.r (.ldA 2 t3),none⟩,0,0⟩,
⟨[1],⟨d20,.p (.mv t8),none⟩,0,0⟩,
⟨[2],⟨d21,.call p260 [t19,t20],none⟩,0,0⟩,
⟨[3],⟨d22,.r (.ldA 2 t4),none⟩,0,1⟩,
⟨[4],⟨d23,.p (.mv t8),none⟩,0,1⟩,
⟨[5],⟨d24,.call p260 [t22,t23],none⟩,1,1⟩,
⟨[6],⟨d25,.r (.ldA 2 t5),none⟩,0,2⟩,
⟨[7],⟨d26,.p (.mv t8),none⟩,0,2⟩,
⟨[8],⟨d27,.call p260 [t25,t26],none⟩,2,2⟩,
⟨[9],⟨d28,.p (.mx t24 t27),none⟩,3,3⟩,
⟨[10],⟨d29,.p (.bin .gtr t21 t28),none⟩,3,3⟩])
 (.cond t29 (.seq (.ops [⟨d6,.p (.mv (.c (.bool false))),none⟩])
 .ret)
 .skip))))
 (.ops [⟨d30,.p (.bin .add t15 k1),none⟩,
⟨d15,.p (.mv t30),none⟩])))))))
 (.seq (.ops [⟨d6,.p (.mv (.c (.bool true))),none⟩])
 .ret)))⟩
theorem c234 : Go.Ev.EntOk Go.Proofs.Tryz.prog (234, f234) := ⟨Go.Proofs.Tryz.f234, Go.Proofs.Tryz.func234, by kernel_rfl, Go.Proofs.Tryz.call234⟩
def f235 : IFunc := ⟨1, [.cA p2 2], (.seq (.ops [⟨d1,.a (.box 49 t0),none⟩,
⟨d2,.a (.alloc 49 [(.int .i64 (.ofNat 0)),.nils]),none⟩])
 (.seq (.ops [⟨d3,.r (.ldA 2 t1),none⟩,
⟨d4,.call p261 [t3,k0,k5],none⟩,
⟨none,.w (.st 2 t2 t4),none⟩])
 .ret))⟩
theorem c235 : Go.Ev.EntOk Go.Proofs.Tryz.prog (235, f235) := ⟨Go.Proofs.Tryz.f235, Go.Proofs.Tryz.func235, by kernel_rfl, Go.Proofs.Tryz.call235⟩
def f236 : IFunc := ⟨1, [.t p2], (.seq (.ops [⟨d2,.p (.mv (.c (.bool false))),none⟩])
 (.seq (.ops [⟨d3,.p (.mv t0),none⟩,
⟨d4,.p (.bin .geq t3 k1),none⟩,
⟨d5,.p (.mv t4),none⟩,
⟨d6,.p (.mv t0),(some (p5, true))⟩,
⟨d7,.p (.bin .leq t6 (.c (.int .i64 (.ofNat 2305843009213693951)))),(some (p5, true))⟩,
⟨d8,.p (.pick t5 t7 (.c (.bool false))),none⟩,
⟨d2,.p (.mv t8),none⟩])
 .ret))⟩
theorem c236 : Go.Ev.EntOk Go.Proofs.Tryz.prog (236, f236) := ⟨Go.Proofs.Tryz.f236, Go.Proofs.Tryz.func236, by kernel_rfl, Go.Proofs.Tryz.call236⟩
def f237 : IFunc := ⟨2, [.t p4], (.seq (.ops [⟨d4,.p (.mv k0),none⟩])
 (.seq (.seq (.ops [⟨d6,.p (.mv t0),none⟩,
⟨d7,.p (.lenSl t6),none⟩,
⟨d8,.p (.mv k0),none⟩])
 (.block 0 (.loop (.seq (.ops [⟨d9,.p (.bin .lss t8 t7),none⟩])
 (.seq (.cond t9 .skip
 (.exit 0))
 (.seq (.block 1 (.seq (.ops [⟨d10,.p (.mv t8),none⟩,
⟨d5,.p (.mv t10),none⟩])
 (.seq (.ops [⟨d11,.p (.mv t1),none⟩,
⟨d12,.p (.mv t0),none⟩,
⟨d13,.p (.mv t5),none⟩,
⟨d14,.p (.iaddrS 2 t12 t13),none⟩,
⟨d15,.r (.ldA 2 t14),none⟩,
⟨d16,.callv t11 [t15],none⟩])
 (.cond t16 (.seq (.ops [⟨d17,.p (.mv t5),none⟩,
⟨d4,.p (.mv t17),none⟩])
 .ret)
 .skip))))
 (.ops [⟨d18,.p (.bin .add t8 k1),none⟩,
⟨d8,.p (.mv t18),none⟩])))))))
 (.seq (.ops [⟨d4,.p (.mv (.c (.int .i64 (.negSucc 0)))),none⟩])
 .ret)))⟩
theorem c237 : Go.Ev.EntOk Go.Proofs.Tryz.prog (237, f237) := ⟨Go.Proofs.Tryz.f237, Go.Proofs.Tryz.func237, by kernel_rfl, Go.Proofs.Tryz.call237⟩
def f238 : IFunc := ⟨1, [.t p2], (.seq (.ops [⟨d2,.p (.mv (.c (.bool false))),none⟩])
 (.seq (.ops [⟨d3,.p (.mv t0),none⟩,
⟨d4,.p (.bin .lss t3 k0),none⟩,
⟨d5,.p (.mv t4),none⟩,
⟨d6,.p (.mv t0),(some (p5, false))⟩,
⟨d7,.p (.bin .gtr t6 k5),(some (p5, false))⟩,
⟨d8,.p (.pick t5 (.c (.bool true)) t7),none⟩,
⟨d2,.p (.mv t8),none⟩])
 .ret))⟩
theorem c238 : Go.Ev.EntOk Go.Proofs.Tryz.prog (238, f238) := ⟨Go.Proofs.Tryz.f238, Go.Proofs.Tryz.func238, by kernel_rfl, Go.Proofs.Tryz.call238⟩
def f239 : IFunc := ⟨2, [], (.ops [⟨d4,.p (.mv t0),none⟩,
⟨d5,.p (.mv t0),none⟩,
⟨d6,.p (.lenSl t5),none⟩,
⟨d7,.p (.mv t1),none⟩,
⟨d8,.call p262 [t4,t6,t7],none⟩])⟩
theorem c239 : Go.Ev.EntOk Go.Proofs.Tryz.prog (239, f239) := ⟨Go.Proofs.Tryz.f239, Go.Proofs.Tryz.func239, by kernel_rfl, Go.Proofs.Tryz.call239⟩
def f240 : IFunc := ⟨2, [.t p4], (.seq (.ops [⟨d2,.a (.box 178 t0),none⟩,
⟨d3,.a (.box 178 t1),none⟩,
⟨d4,.p (.mv k0),none⟩])
 (.seq (.reg [⟨[0],⟨d5,.p (.faddr 0 t2),none⟩,0,0⟩,
⟨[1],⟨d6,.r (.ldS t5),none⟩,0,0⟩,
⟨[2],⟨d7,.p (.faddr 0 t3),none⟩,0,0⟩,
⟨[3],⟨d8,.r (.ldS t7),none⟩,0,0⟩,
⟨[4],⟨d9,.call p185 [t6,t8],none⟩,0,0⟩,
⟨[5],⟨d10,.p (.faddr 1 t2),none⟩,0,1⟩,
⟨[6],⟨d11,.r (.ldS t10),none⟩,0,1⟩,
⟨[7],⟨d12,.p (.faddr 1 t3),none⟩,0,1⟩,
⟨[8],⟨d13,.r (.ldS t12),none⟩,0,1⟩,
⟨[9],⟨d14,.call p185 [t11,t13],none⟩,1,1⟩,
⟨[10],⟨d15,.a (.bslice 3 1 2 [(.int .i64 (.ofNat 0)),(.int .i64 (.ofNat 0))] [(0, 1, t9),(1, 1, t14)]),none⟩,2,2⟩,
⟨[11],⟨d16,.call p241 [t15],none⟩,2,2⟩,
⟨[12],⟨d4,.p (.mv t16),none⟩,3,3⟩])
 .ret))⟩
theorem c240 : Go.Ev.EntOk Go.Proofs.Tryz.prog (240, f240) := ⟨Go.Proofs.Tryz.f240, Go.Proofs.Tryz.func240, by kernel_rfl, Go.Proofs.Tryz.call240⟩
def f241 : IFunc := ⟨1, [.t p2], (.seq (.ops [⟨d2,.p (.mv k0),none⟩])
 (.seq (.ops [⟨d3,.p (.mv k0),none⟩])
 (.seq (.seq (.ops [⟨d6,.p (.mv t0),none⟩,
⟨d7,.p (.lenSl t6),none⟩,
⟨d8,.p (.mv k0),none⟩])
 (.block 0 (.loop (.seq (.ops [⟨d9,.p (.bin .lss t8 t7),none⟩])
 (.seq (.cond t9 .skip
 (.exit 0))
 (.seq (.block 1 (.seq (.ops [⟨d10,.p (.iaddrS 1 t6 t8),none⟩,
⟨d11,.r (.ldS t10),none⟩,
⟨d5,.p (.mv t11),none⟩])
 (.seq (.ops [⟨d12,.p (.mv t5),none⟩,
⟨d13,.p (.mv t3),none⟩,
⟨d14,.p (.bin .neq t12 t13),none⟩])
 (.cond t14 (.seq (.ops [⟨d15,.p (.mv t5),none⟩,
⟨d2,.p (.mv t15),none⟩])
 .ret)
 .skip))))
 (.ops [⟨d16,.p (.bin .add t8 k1),none⟩,
⟨d8,.p (.mv t16),none⟩])))))))
 (.seq (.ops [⟨d17,.p (.mv t3),none⟩,
⟨d2,.p (.mv t17),none⟩])
 .ret))))⟩
theorem c241 : Go.Ev.EntOk Go.Proofs.Tryz.prog (241, f241) := ⟨Go.Proofs.Tryz.f241, Go.Proofs.Tryz.func241, by kernel_rfl, Go.Proofs.Tryz.call241⟩
def f242 : IFunc := ⟨1, [.t p2], (.seq (.ops [⟨d2,.p (.mv (.c .nils)),none⟩])
 (.seq (.seq (.ops [⟨d6,.p (.mv t0),none⟩,
⟨d7,.p (.lenSl t6),none⟩,
⟨d8,.p (.bin .lss t7 k2),none⟩])
 (.cond t8 (.seq (.ops [⟨d9,.p (.mv t0),none⟩,
⟨d2,.p (.mv t9),none⟩])
 .ret)
 .skip))
 (.seq (.seq (.ops [⟨d3,.p (.mv k1),none⟩])
 (.block 0 (.loop (.seq (.seq (.ops [⟨d10,.p (.mv t3),none⟩,
⟨d11,.p (.mv t0),none⟩,
⟨d12,.p (.lenSl t11),none⟩,
⟨d13,.p (.bin .lss t10 t12),none⟩])
 (.cond t13 .skip
 (.exit 0)))
 (.seq (.block 1 (.seq (.reg [⟨[0],⟨d16,.p (.mv t0),none⟩,0,0⟩,
⟨[1],⟨d17,.p (.mv t3),none⟩,0,0⟩,
⟨[2],⟨d18,.p (.iaddrS 2 t16 t17),none⟩,0,0⟩,
⟨[3],⟨d19,.r (.ldA 2 t18),none⟩,0,0⟩,
⟨[4],⟨d20,.p (.mv t0),none⟩,0,0⟩,
⟨[5],⟨d21,.p (.mv t3),none⟩,0,0⟩,
⟨[6],⟨d22,.p (.bin .sub t21 k1),none⟩,0,0⟩,
⟨[7],⟨d23,.p (.iaddrS 2 t20 t22),none⟩,0,0⟩,
⟨[8],⟨d24,.r (.ldA 2 t23),none⟩,0,0⟩,
⟨[9],⟨d25,.p (.eqa false [.i,.i] t19 t24),none⟩,0,0⟩])
 (.cond t25 (.seq (.ops [⟨d26,.p (.mv t0),none⟩,
⟨d27,.p (.mv t3),none⟩,
⟨d28,.p (.slSl 2 t26 (some t27) none none),none⟩,
⟨d4,.p (.mv t28),none⟩])
 (.seq (.seq (.ops [⟨d5,.p (.mv k1),none⟩])
 (.block 2 (.loop (.seq (.seq (.ops [⟨d29,.p (.mv t5),none⟩,
⟨d30,.p (.mv t4),none⟩,
⟨d31,.p (.lenSl t30),none⟩,
⟨d32,.p (.bin .lss t29 t31),none⟩])
 (.cond t32 .skip
 (.exit 2)))
 (.seq (.block 3 (.seq (.reg [⟨[0],⟨d35,.p (.mv t4),none⟩,0,0⟩,
⟨[1],⟨d36,.p (.mv t5),none⟩,0,0⟩,
⟨[2],⟨d37,.p (.iaddrS 2 t35 t36),none⟩,0,0⟩,
⟨[3],⟨d38,.r (.ldA 2 t37),none⟩,0,0⟩,
⟨[4],⟨d39,.p (.mv t4),none⟩,0,0⟩,
⟨[5],⟨d40,.p (.mv t5),none⟩,0,0⟩,
⟨[6],⟨d41,.p (.bin .sub t40 k1),none⟩,0,0⟩,
⟨[7],⟨d42,.p (.iaddrS 2 t39 t41),none⟩,0,0⟩,
⟨[8],⟨d43,.r (.ldA 2 t42),none⟩,0,0⟩,
⟨[9],⟨d44,.p (.eqa true [.i,.i] t38 t43),none⟩,0,0⟩])
 (.cond t44 (.seq (.ops [⟨d45,.p (.mv t0),none⟩,
⟨d46,.p (.mv t3),none⟩,
⟨d47,.p (.mv t4),none⟩,
⟨d48,.p (.mv t5),none⟩,
⟨d49,.p (.iaddrS 2 t47 t48),none⟩,
⟨d50,.r (.ldA 2 t49),none⟩,
⟨d51,.p (.iaddrS 2 t45 t46),none⟩,
⟨none,.w (.st 2 t51 t50),none⟩])
 (.ops [⟨d52,.p (.mv t3),none⟩,
⟨d53,.p (.bin .add t52 k1),none⟩,
⟨d3,.p (.mv t53),none⟩]))
 .skip)))
 (.ops [⟨d33,.p (.mv t5),none⟩,
⟨d34,.p (.bin .add t33 k1),none⟩,
⟨d5,.p (.mv t34),none⟩]))))))
 (.seq (.ops [⟨d54,.p (.mv t0),none⟩,
⟨d55,.p (.mv t3),none⟩,
⟨d56,.p (.slSl 2 t54 (some t55) none none),none⟩,
⟨none,.w (.clearS 2 [(.int .i64 (.ofNat 0)),(.int .i64 (.ofNat 0))] t56),none⟩])
 (.seq (.ops [⟨d57,.p (.mv t0),none⟩,
⟨d58,.p (.mv t3),none⟩,
⟨d59,.p (.slSl 2 t57 none (some t58) none),none⟩,
⟨d2,.p (.mv t59),none⟩])
 .ret))))
 .skip)))
 (.ops [⟨d14,.p (.mv t3),none⟩,
⟨d15,.p (.bin .add t14 k1),none⟩,
⟨d3,.p (.mv t15),none⟩]))))))
 (.seq (.ops [⟨d60,.p (.mv t0),none⟩,
⟨d2,.p (.mv t60),none⟩])
 .ret))))⟩
theorem c242 : Go.Ev.EntOk Go.Proofs.Tryz.prog (242, f242) := ⟨Go.Proofs.Tryz.f242, Go.Proofs.Tryz.func242, by kernel_rfl, Go.Proofs.Tryz.call242⟩
def f243 : IFunc := ⟨1, [.cA p2 2,.t p3], (.seq (.ops [⟨d1,.a (.box 49 t0),none⟩,
⟨d2,.a (.alloc 49 [(.int .i64 (.ofNat 0)),.nils]),none⟩,
⟨d3,.p (.mv k0),none⟩])
 (.seq (.seq (.ops [⟨d4,.p (.faddr 1 t1),none⟩,
⟨d5,.r (.ldS t4),none⟩,
⟨d6,.p (.lenSl t5),none⟩,
⟨d7,.p (.bin .gtr t6 k16),none⟩])
 (.cond t7 (.seq (.ops [⟨d8,.p (.build [(.int .i64 (.ofNat 0)),.nils] []),none⟩,
⟨none,.w (.st 2 t2 t8),none⟩,
⟨d3,.p (.mv k7),none⟩])
 .ret)
 .skip))
 (.seq (.ops [⟨d9,.r (.ldA 2 t1),none⟩,
⟨none,.w (.st 2 t2 t9),none⟩,
⟨d3,.p (.mv k0),none⟩])
 .ret)))⟩
theorem c243 : Go.Ev.EntOk Go.Proofs.Tryz.prog (243, f243) := ⟨Go.Proofs.Tryz.f243, Go.Proofs.Tryz.func243, by kernel_rfl, Go.Proofs.Tryz.call243⟩
def f244 : IFunc := ⟨2, [.t p4], (.seq (.ops [⟨d4,.p (.mv (.c (.bool false))),none⟩])
 (.seq (.ops [⟨d5,.p (.mv t0),none⟩,
⟨d6,.p (.mv t1),none⟩,
⟨d7,.call p237 [t5,t6],none⟩,
⟨d8,.p (.bin .geq t7 k0),none⟩,
⟨d4,.p (.mv t8),none⟩])
 .ret))⟩
theorem c244 : Go.Ev.EntOk Go.Proofs.Tryz.prog (244, f244) := ⟨Go.Proofs.Tryz.f244, Go.Proofs.Tryz.func244, by kernel_rfl, Go.Proofs.Tryz.call244⟩
def f245 : IFunc := ⟨2, [.t p3], (.seq (.ops [⟨d2,.a (.box 178 t0),none⟩,
⟨d3,.p (.mv (.c (.bool false))),none⟩])
 (.seq (.ops [⟨d4,.p (.faddr 1 t2),none⟩,
⟨d5,.r (.ldS t4),none⟩,
⟨d6,.r (.ldS t1),none⟩,
⟨d7,.p (.bin .eql t5 t6),none⟩,
⟨d3,.p (.mv t7),none⟩])
 .ret))⟩
theorem c245 : Go.Ev.EntOk Go.Proofs.Tryz.prog (245, f245) := ⟨Go.Proofs.Tryz.f245, Go.Proofs.Tryz.func245, by kernel_rfl, Go.Proofs.Tryz.call245⟩
def f246 : IFunc := ⟨3, [], (.seq (.ops [⟨d4,.p (.mv k0),none⟩,
⟨d5,.p (.mv k0),none⟩])
 (.block 0 (.loop (.seq (.seq (.ops [⟨d10,.p (.mv t4),none⟩,
⟨d11,.p (.faddr 1 t1),none⟩,
⟨d12,.r (.ldS t11),none⟩,
⟨d13,.p (.lenSl t12),none⟩,
⟨d14,.p (.bin .lss t10 t13),none⟩,
⟨d15,.p (.mv t14),none⟩,
⟨d16,.p (.mv t5),(some (p15, false))⟩,
⟨d17,.p (.faddr 1 t2),(some (p15, false))⟩,
⟨d18,.r (.ldS t17),(some (p15, false))⟩,
⟨d19,.p (.lenSl t18),(some (p15, false))⟩,
⟨d20,.p (.bin .lss t16 t19),(some (p15, false))⟩,
⟨d21,.p (.pick t15 (.c (.bool true)) t20),none⟩])
 (.cond t21 .skip
 (.exit 0)))
 (.block 1 (.seq (.reg [⟨[0],⟨d22,.p (.faddr 0 t1),none⟩,0,0⟩,
⟨[1],⟨d23,.r (.ldS t22),none⟩,0,0⟩,
⟨[2],⟨d24,.p (.build [(.int .i64 (.ofNat 0)),(.int .i64 (.ofNat 0))] [(1, 1, t23)]),none⟩,0,0⟩,
⟨[6],⟨d6,.a (.alloc 178 [(.int .i64 (.ofNat 0)),(.int .i64 (.ofNat 0))]),none⟩,0,0⟩,
⟨[7],⟨d7,.a (.alloc 178 [(.int .i64 (.ofNat 0)),(.int .i64 (.ofNat 0))]),none⟩,0,0⟩,
⟨[8],⟨none,.w (.st 2 t6 t24),none⟩,0,0⟩,
⟨[3],⟨d25,.p (.faddr 0 t2),none⟩,0,1⟩,
⟨[4],⟨d26,.r (.ldS t25),none⟩,0,1⟩,
⟨[5],⟨d27,.p (.build [(.int .i64 (.ofNat 0)),(.int .i64 (.ofNat 0))] [(1, 1, t26)]),none⟩,0,1⟩,
⟨[9],⟨none,.w (.st 2 t7 t27),none⟩,1,1⟩])
 (.seq (.reg [⟨[0],⟨d28,.p (.mv t5),none⟩,0,0⟩,
⟨[1],⟨d29,.p (.faddr 1 t2),none⟩,0,0⟩,
⟨[2],⟨d30,.r (.ldS t29),none⟩,0,0⟩,
⟨[3],⟨d31,.p (.lenSl t30),none⟩,0,0⟩,
⟨[4],⟨d32,.p (.bin .geq t28 t31),none⟩,0,0⟩,
⟨[5],⟨d33,.p (.mv t32),none⟩,0,0⟩,
⟨[6],⟨d34,.p (.mv t4),(some (p33, false))⟩,0,0⟩,
⟨[7],⟨d35,.p (.faddr 1 t1),(some (p33, false))⟩,0,0⟩,
⟨[8],⟨d36,.r (.ldS t35),(some (p33, false))⟩,0,0⟩,
⟨[9],⟨d37,.p (.lenSl t36),(some (p33, false))⟩,0,0⟩,
⟨[10],⟨d38,.p (.bin .lss t34 t37),(some (p33, false))⟩,0,0⟩,
⟨[11],⟨d39,.p (.mv t38),(some (p33, false))⟩,0,0⟩,
⟨[12],⟨d40,.p (.faddr 1 t1),(some (p39, true))⟩,0,0⟩,
⟨[13],⟨d41,.r (.ldS t40),(some (p39, true))⟩,0,0⟩,
⟨[14],⟨d42,.p (.mv t4),(some (p39, true))⟩,0,0⟩,
⟨[15],⟨d43,.p (.iaddrS 2 t41 t42),(some (p39, true))⟩,0,0⟩,
⟨[16],⟨d44,.p (.faddr 0 t43),(some (p39, true))⟩,0,0⟩,
⟨[17],⟨d45,.r (.ldS t44),(some (p39, true))⟩,0,0⟩,
⟨[18],⟨d46,.p (.faddr 1 t2),(some (p39, true))⟩,0,0⟩,
⟨[19],⟨d47,.r (.ldS t46),(some (p39, true))⟩,0,0⟩,
⟨[20],⟨d48,.p (.mv t5),(some (p39, true))⟩,0,0⟩,
⟨[21],⟨d49,.p (.iaddrS 2 t47 t48),(some (p39, true))⟩,0,0⟩,
⟨[22],⟨d50,.p (.faddr 0 t49),(some (p39, true))⟩,0,0⟩,
⟨[23],⟨d51,.r (.ldS t50),(some (p39, true))⟩,0,0⟩,
⟨[24],⟨d52,.p (.bin .leq t45 t51),(some (p39, true))⟩,0,0⟩,
⟨[25],⟨d53,.p (.pick t39 t52 (.c (.bool false))),(some (p33, false))⟩,0,0⟩,
⟨[26],⟨d54,.p (.pick t33 (.c (.bool true)) t53),none⟩,0,0⟩,
⟨[27],⟨d8,.p (.mv t54),none⟩,0,0⟩])
 (.seq (.reg [⟨[0],⟨d55,.p (.mv t4),none⟩,0,0⟩,
⟨[1],⟨d56,.p (.faddr 1 t1),none⟩,0,0⟩,
⟨[2],⟨d57,.r (.ldS t56),none⟩,0,0⟩,
⟨[3],⟨d58,.p (.lenSl t57),none⟩,0,0⟩,
⟨[4],⟨d59,.p (.bin .geq t55 t58),none⟩,0,0⟩,
⟨[5],⟨d60,.p (.mv t59),none⟩,0,0⟩,
⟨[6],⟨d61,.p (.mv t5),(some (p60, false))⟩,0,0⟩,
⟨[7],⟨d62,.p (.faddr 1 t2),(some (p60, false))⟩,0,0⟩,
⟨[8],⟨d63,.r (.ldS t62),(some (p60, false))⟩,0,0⟩,
⟨[9],⟨d64,.p (.lenSl t63),(some (p60, false))⟩,0,0⟩,
⟨[10],⟨d65,.p (.bin .lss t61 t64),(some (p60, false))⟩,0,0⟩,
⟨[11],⟨d66,.p (.mv t65),(some (p60, false))⟩,0,0⟩,
⟨[12],⟨d67,.p (.faddr 1 t2),(some (p66, true))⟩,0,0⟩,
⟨[13],⟨d68,.r (.ldS t67),(some (p66, true))⟩,0,0⟩,
⟨[14],⟨d69,.p (.mv t5),(some (p66, true))⟩,0,0⟩,
⟨[15],⟨d70,.p (.iaddrS 2 t68 t69),(some (p66, true))⟩,0,0⟩,
⟨[16],⟨d71,.p (.faddr 0 t70),(some (p66, true))⟩,0,0⟩,
⟨[17],⟨d72,.r (.ldS t71),(some (p66, true))⟩,0,0⟩,
⟨[18],⟨d73,.p (.faddr 1 t1),(some (p66, true))⟩,0,0⟩,
⟨[19],⟨d74,.r (.ldS t73),(some (p66, true))⟩,0,0⟩,
⟨[20],⟨d75,.p (.mv t4),(some (p66, true))⟩,0,0⟩,
⟨[21],⟨d76,.p (.iaddrS 2 t74 t75),(some (p66, true))⟩,0,0⟩,
⟨[22],⟨d77,.p (.faddr 0 t76),(some (p66, true))⟩,0,0⟩,
⟨[23],⟨d78,.r (.ldS t77),(some (p66, true))⟩,0,0⟩,
⟨[24],⟨d79,.p (.bin .leq t72 t78),(some (p66, true))⟩,0,0⟩,
⟨[25],⟨d80,.p (.pick t66 t79 (.c (.bool false))),(some (p60, false))⟩,0,0⟩,
⟨[26],⟨d81,.p (.pick t60 (.c (.bool true)) t80),none⟩,0,0⟩,
⟨[27],⟨d9,.p (.mv t81),none⟩,0,0⟩])
 (.seq (.seq (.ops [⟨d82,.p (.mv t8),none⟩])
 (.cond t82 (.seq (.ops [⟨d83,.p (.faddr 1 t1),none⟩,
⟨d84,.r (.ldS t83),none⟩,
⟨d85,.p (.mv t4),none⟩,
⟨d86,.p (.iaddrS 2 t84 t85),none⟩,
⟨d87,.r (.ldA 2 t86),none⟩,
⟨none,.w (.st 2 t6 t87),none⟩])
 (.ops [⟨d88,.p (.mv t4),none⟩,
⟨d89,.p (.bin .add t88 k1),none⟩,
⟨d4,.p (.mv t89),none⟩]))
 .skip))
 (.seq (.seq (.ops [⟨d90,.p (.mv t9),none⟩])
 (.cond t90 (.seq (.ops [⟨d91,.p (.faddr 1 t2),none⟩,
⟨d92,.r (.ldS t91),none⟩,
⟨d93,.p (.mv t5),none⟩,
⟨d94,.p (.iaddrS 2 t92 t93),none⟩,
⟨d95,.r (.ldA 2 t94),none⟩,
⟨none,.w (.st 2 t7 t95),none⟩])
 (.ops [⟨d96,.p (.mv t5),none⟩,
⟨d97,.p (.bin .add t96 k1),none⟩,
⟨d5,.p (.mv t97),none⟩]))
 .skip))
 (.seq (.ops [⟨d98,.p (.mv t0),none⟩,
⟨d99,.p (.faddr 0 t6),none⟩,
⟨d100,.r (.ldS t99),none⟩,
⟨d101,.p (.faddr 0 t7),none⟩,
⟨d102,.r (.ldS t101),none⟩,
⟨d103,.p (.mx t100 t102),none⟩,
⟨d104,.p (.faddr 1 t6),none⟩,
⟨d105,.r (.ldS t104),none⟩,
⟨d106,.p (.faddr 1 t7),none⟩,
⟨d107,.r (.ldS t106),none⟩,
⟨d108,.p (.build [(.int .i64 (.ofNat 0)),(.int .i64 (.ofNat 0))] [(0, 1, t105),(1, 1, t107)]),none⟩,
⟨d109,.callv t98 [t103,t108],none⟩,
⟨d110,.p (.not t109),none⟩])
 (.cond t110 .ret
 .skip))))))))))))⟩
theorem c246 : Go.Ev.EntOk Go.Proofs.Tryz.prog (246, f246) := ⟨Go.Proofs.Tryz.f246, Go.Proofs.Tryz.func246, by kernel_rfl, Go.Proofs.Tryz.call246⟩
def f247 : IFunc := ⟨3, [.t p4], (.seq (.ops [⟨d4,.p (.mv k0),none⟩])
 (.seq (.seq (.ops [⟨d5,.p (.mv t0),none⟩,
⟨d6,.r (.ldS t1),none⟩,
⟨d7,.p (.bin .eql t5 t6),none⟩])
 (.cond t7 (.seq (.ops [⟨d8,.r (.ldS t2),none⟩,
⟨d4,.p (.mv t8),none⟩])
 .ret)
 .skip))
 (.seq (.ops [⟨d9,.p (.mv t0),none⟩,
⟨d4,.p (.mv t9),none⟩])
 .ret)))⟩
theorem c247 : Go.Ev.EntOk Go.Proofs.Tryz.prog (247, f247) := ⟨Go.Proofs.Tryz.f247, Go.Proofs.Tryz.func247, by kernel_rfl, Go.Proofs.Tryz.call247⟩
def f248 : IFunc := ⟨2, [.t p4], (.seq (.ops [⟨d4,.p (.mv k0),none⟩])
 (.seq (.seq (.ops [⟨d6,.p (.mv t0),none⟩,
⟨d7,.p (.lenSl t6),none⟩,
⟨d8,.p (.mv k0),none⟩])
 (.block 0 (.loop (.seq (.ops [⟨d9,.p (.bin .lss t8 t7),none⟩])
 (.seq (.cond t9 .skip
 (.exit 0))
 (.seq (.block 1 (.seq (.ops [⟨d10,.p (.mv t8),none⟩,
⟨d5,.p (.mv t10),none⟩])
 (.seq (.ops [⟨d11,.p (.mv t1),none⟩,
⟨d12,.p (.mv t0),none⟩,
⟨d13,.p (.mv t5),none⟩,
⟨d14,.p (.iaddrS 1 t12 t13),none⟩,
⟨d15,.r (.ldS t14),none⟩,
⟨d16,.p (.bin .eql t11 t15),none⟩])
 (.cond t16 (.seq (.ops [⟨d17,.p (.mv t5),none⟩,
⟨d4,.p (.mv t17),none⟩])
 .ret)
 .skip))))
 (.ops [⟨d18,.p (.bin .add t8 k1),none⟩,
⟨d8,.p (.mv t18),none⟩])))))))
 (.seq (.ops [⟨d4,.p (.mv (.c (.int .i64 (.negSucc 0)))),none⟩])
 .ret)))⟩
theorem c248 : Go.Ev.EntOk Go.Proofs.Tryz.prog (248, f248) := ⟨Go.Proofs.Tryz.f248, Go.Proofs.Tryz.func248, by kernel_rfl, Go.Proofs.Tryz.call248⟩
def f249 : IFunc := ⟨2, [.t p4], (.seq (.ops [⟨d4,.p (.mv (.c .nils)),none⟩])
 (.seq (.ops [⟨d8,.p (.mv t0),none⟩,
⟨d9,.p (.mv t1),none⟩,
⟨d10,.call p263 [t8,t9],none⟩,
⟨d5,.p (.mv t10),none⟩])
 (.seq (.seq (.ops [⟨d11,.p (.mv t5),none⟩,
⟨d12,.p (.bin .eql t11 (.c (.int .i64 (.negSucc 0)))),none⟩])
 (.cond t12 (.seq (.ops [⟨d13,.p (.mv t0),none⟩,
⟨d4,.p (.mv t13),none⟩])
 .ret)
 .skip))
 (.seq (.seq (.ops [⟨d14,.p (.mv t5),none⟩,
⟨d15,.p (.bin .add t14 k1),none⟩,
⟨d6,.p (.mv t15),none⟩])
 (.block 0 (.loop (.seq (.seq (.ops [⟨d16,.p (.mv t6),none⟩,
⟨d17,.p (.mv t0),none⟩,
⟨d18,.p (.lenSl t17),none⟩,
⟨d19,.p (.bin .lss t16 t18),none⟩])
 (.cond t19 .skip
 (.exit 0)))
 (.seq (.block 1 (.seq (.ops [⟨d22,.p (.mv t0),none⟩,
⟨d23,.p (.mv t6),none⟩,
⟨d24,.p (.iaddrS 1 t22 t23),none⟩,
⟨d25,.r (.ldS t24),none⟩,
⟨d7,.p (.mv t25),none⟩])
 (.seq (.ops [⟨d26,.p (.mv t1),none⟩,
⟨d27,.p (.mv t7),none⟩,
⟨d28,.callv t26 [t27],none⟩,
⟨d29,.p (.not t28),none⟩])
 (.cond t29 (.seq (.ops [⟨d30,.p (.mv t0),none⟩,
⟨d31,.p (.mv t5),none⟩,
⟨d32,.p (.mv t7),none⟩,
⟨d33,.p (.iaddrS 1 t30 t31),none⟩,
⟨none,.w (.st 1 t33 t32),none⟩])
 (.ops [⟨d34,.p (.mv t5),none⟩,
⟨d35,.p (.bin .add t34 k1),none⟩,
⟨d5,.p (.mv t35),none⟩]))
 .skip))))
 (.ops [⟨d20,.p (.mv t6),none⟩,
⟨d21,.p (.bin .add t20 k1),none⟩,
⟨d6,.p (.mv t21),none⟩]))))))
 (.seq (.ops [⟨d36,.p (.mv t0),none⟩,
⟨d37,.p (.mv t5),none⟩,
⟨d38,.p (.slSl 1 t36 (some t37) none none),none⟩,
⟨none,.w (.clearS 1 [(.int .i64 (.ofNat 0))] t38),none⟩])
 (.seq (.ops [⟨d39,.p (.mv t0),none⟩,
⟨d40,.p (.mv t5),none⟩,
⟨d41,.p (.slSl 1 t39 none (some t40) none),none⟩,
⟨d4,.p (.mv t41),none⟩])
 .ret))))))⟩
theorem c249 : Go.Ev.EntOk Go.Proofs.Tryz.prog (249, f249) := ⟨Go.Proofs.Tryz.f249, Go.Proofs.Tryz.func249, by kernel_rfl, Go.Proofs.Tryz.call249⟩
def f250 : IFunc := ⟨2, [.t p3], (.seq (.ops [⟨d3,.p (.mv (.c (.bool false))),none⟩])
 (.seq (.ops [⟨d4,.r (.ldS t1),none⟩,
⟨d5,.p (.mv t0),none⟩,
⟨d6,.p (.bin .eql t4 t5),none⟩,
⟨d3,.p (.mv t6),none⟩])
 .ret))⟩
theorem c250 : Go.Ev.EntOk Go.Proofs.Tryz.prog (250, f250) := ⟨Go.Proofs.Tryz.f250, Go.Proofs.Tryz.func250, by kernel_rfl, Go.Proofs.Tryz.call250⟩
def f251 : IFunc := ⟨2, [], (.seq (.ops [⟨d5,.p (.mv t0),none⟩,
⟨d6,.p (.lenSl t5),none⟩,
⟨d4,.p (.mv t6),none⟩])
 (.ops [⟨d7,.p (.mv t0),none⟩,
⟨d8,.p (.mv t4),none⟩,
⟨d9,.p (.mv t4),none⟩,
⟨d10,.p (.conv .u64 t9),none⟩,
⟨d11,.call p265 [t10],none⟩,
⟨d12,.p (.mv t1),none⟩,
⟨d13,.call p264 [t7,k0,t8,t11,t12],none⟩]))⟩
theorem c251 : Go.Ev.EntOk Go.Proofs.Tryz.prog (251, f251) := ⟨Go.Proofs.Tryz.f251, Go.Proofs.Tryz.func251, by kernel_rfl, Go.Proofs.Tryz.call251⟩
def f255 : IFunc := ⟨1, [.t p2], (.seq (.ops [⟨d1,.a (.box 49 t0),none⟩,
⟨d2,.p (.mv (.c (.bool false))),none⟩])
 (.seq (.seq (.ops [⟨d5,.p (.faddr 0 t1),none⟩,
⟨d6,.r (.ldS t5),none⟩,
⟨d7,.call p268 [t6],none⟩,
⟨d8,.p (.not t7),none⟩,
⟨d9,.p (.mv t8),none⟩,
⟨d10,.p (.faddr 1 t1),(some (p9, false))⟩,
⟨d11,.r (.ldS t10),(some (p9, false))⟩,
⟨d12,.p (.lenSl t11),(some (p9, false))⟩,
⟨d13,.p (.bin .gtr t12 k16),(some (p9, false))⟩,
⟨d14,.p (.pick t9 (.c (.bool true)) t13),none⟩])
 (.cond t14 (.seq (.ops [⟨d2,.p (.mv (.c (.bool false))),none⟩])
 .ret)
 .skip))
 (.seq (.seq (.ops [⟨d15,.p (.faddr 1 t1),none⟩,
⟨d16,.r (.ldS t15),none⟩,
⟨d17,.p (.lenSl t16),none⟩,
⟨d18,.p (.mv k0),none⟩])
 (.block 0 (.loop (.seq (.ops [⟨d19,.p (.bin .lss t18 t17),none⟩])
 (.seq (.cond t19 .skip
 (.exit 0))
 (.seq (.block 1 (.seq (.ops [⟨d20,.p (.mv t18),none⟩,
⟨d21,.p (.iaddrS 2 t16 t18),none⟩,
⟨d22,.r (.ldA 2 t21),none⟩,
⟨d4,.a (.alloc 178 [(.int .i64 (.ofNat 0)),(.int .i64 (.ofNat 0))]),none⟩,
⟨d3,.p (.mv t20),none⟩,
⟨none,.w (.st 2 t4 t22),none⟩])
 (.seq (.reg [⟨[0],⟨d23,.p (.faddr 0 t4),none⟩,0,0⟩,
⟨[1],⟨d24,.r (.ldS t23),none⟩,0,0⟩,
⟨[2],⟨d25,.call p236 [t24],none⟩,0,0⟩,
⟨[3],⟨d26,.p (.not t25),none⟩,1,1⟩,
⟨[4],⟨d27,.p (.mv t26),none⟩,1,1⟩,
⟨[5],⟨d28,.p (.faddr 1 t4),(some (p27, false))⟩,1,1⟩,
⟨[6],⟨d29,.r (.ldS t28),(some (p27, false))⟩,1,1⟩,
⟨[7],⟨d30,.call p268 [t29],(some (p27, false))⟩,1,1⟩,
⟨[8],⟨d31,.p (.not t30),(some (p27, false))⟩,2,2⟩,
⟨[9],⟨d32,.p (.pick t27 (.c (.bool true)) t31),none⟩,2,2⟩,
⟨[10],⟨d33,.p (.mv t32),none⟩,2,2⟩,
⟨[11],⟨d34,.p (.faddr 1 t4),(some (p33, false))⟩,2,2⟩,
⟨[12],⟨d35,.r (.ldS t34),(some (p33, false))⟩,2,2⟩,
⟨[13],⟨d36,.p (.faddr 0 t1),(some (p33, false))⟩,2,2⟩,
⟨[14],⟨d37,.r (.ldS t36),(some (p33, false))⟩,2,2⟩,
⟨[15],⟨d38,.p (.bin .eql t35 t37),(some (p33, false))⟩,2,2⟩,
⟨[16],⟨d39,.p (.pick t33 (.c (.bool true)) t38),none⟩,2,2⟩,
⟨[17],⟨d40,.p (.mv t39),none⟩,2,2⟩,
⟨[18],⟨d41,.p (.mv t3),(some (p40, false))⟩,2,2⟩,
⟨[19],⟨d42,.p (.bin .gtr t41 k0),(some (p40, false))⟩,2,2⟩,
⟨[20],⟨d43,.p (.mv t42),(some (p40, false))⟩,2,2⟩,
⟨[21],⟨d44,.p (.faddr 1 t1),(some (p43, true))⟩,2,2⟩,
⟨[22],⟨d45,.r (.ldS t44),(some (p43, true))⟩,2,2⟩,
⟨[23],⟨d46,.p (.mv t3),(some (p43, true))⟩,2,2⟩,
⟨[24],⟨d47,.p (.bin .sub t46 k1),(some (p43, true))⟩,2,2⟩,
⟨[25],⟨d48,.p (.iaddrS 2 t45 t47),(some (p43, true))⟩,2,2⟩,
⟨[26],⟨d49,.p (.faddr 0 t48),(some (p43, true))⟩,2,2⟩,
⟨[27],⟨d50,.r (.ldS t49),(some (p43, true))⟩,2,2⟩,
⟨[28],⟨d51,.p (.faddr 0 t4),(some (p43, true))⟩,2,2⟩,
⟨[29],⟨d52,.r (.ldS t51),(some (p43, true))⟩,2,2⟩,
⟨[30],⟨d53,.p (.bin .geq t50 t52),(some (p43, true))⟩,2,2⟩,
⟨[31],⟨d54,.p (.pick t43 t53 (.c (.bool false))),(some (p40, false))⟩,2,2⟩,
⟨[32],⟨d55,.p (.pick t40 (.c (.bool true)) t54),none⟩,2,2⟩])
 (.cond t55 (.seq (.ops [⟨d2,.p (.mv (.c (.bool false))),none⟩])
 .ret)
 .skip))))
 (.ops [⟨d56,.p (.bin .add t18 k1),none⟩,
⟨d18,.p (.mv t56),none⟩])))))))
 (.seq (.ops [⟨d2,.p (.mv (.c (.bool true))),none⟩])
 .ret))))⟩
theorem c255 : Go.Ev.EntOk Go.Proofs.Tryz.prog (255, f255) := ⟨Go.Proofs.Tryz.f255, Go.Proofs.Tryz.func255, by kernel_rfl, Go.Proofs.Tryz.call255⟩
def f256 : IFunc := ⟨2, [.t p4], (.seq (.ops [⟨d2,.a (.box 49 t0),none⟩,
⟨d3,.a (.box 49 t1),none⟩,
⟨d4,.p (.mv (.c (.bool false))),none⟩])
 (.seq (.reg [⟨[1],⟨d6,.r (.ldA 2 t2),none⟩,0,0⟩,
⟨[2],⟨d7,.call p235 [t6],none⟩,0,0⟩,
⟨[0],⟨d5,.r (.ldA 2 t3),none⟩,0,1⟩,
⟨[3],⟨d8,.call p233 [t5,t7],none⟩,1,1⟩,
⟨[4],⟨d4,.p (.mv t8),none⟩,2,2⟩])
 .ret))⟩
theorem c256 : Go.Ev.EntOk Go.Proofs.Tryz.prog (256, f256) := ⟨Go.Proofs.Tryz.f256, Go.Proofs.Tryz.func256, by kernel_rfl, Go.Proofs.Tryz.call256⟩
def f257 : IFunc := ⟨1, [.t p2], (.seq (.ops [⟨d2,.p (.mv (.c .nils)),none⟩])
 (.seq (.ops [⟨d10,.a (.bslice 3 1 0 [] []),none⟩,
⟨d3,.p (.mv t10),none⟩])
 (.seq (.seq (.ops [⟨d11,.p (.mv t0),none⟩,
⟨d12,.p (.lenSl t11),none⟩,
⟨d13,.p (.mv k0),none⟩])
 (.block 0 (.loop (.seq (.ops [⟨d14,.p (.bin .lss t13 t12),none⟩])
 (.seq (.cond t14 .skip
 (.exit 0))
 (.seq (.block 1 (.seq (.ops [⟨d15,.p (.iaddrS 2 t11 t13),none⟩,
⟨d16,.r (.ldA 2 t15),none⟩,
⟨d5,.a (.alloc 49 [(.int .i64 (.ofNat 0)),.nils]),none⟩,
⟨none,.w (.st 2 t5 t16),none⟩])
 (.seq (.ops [⟨d17,.p (.faddr 1 t5),none⟩,
⟨d18,.r (.ldS t17),none⟩,
⟨d19,.p (.lenSl t18),none⟩,
⟨d20,.p (.mv k0),none⟩])
 (.block 2 (.loop (.seq (.ops [⟨d21,.p (.bin .lss t20 t19),none⟩])
 (.seq (.cond t21 .skip
 (.exit 2))
 (.seq (.block 3 (.seq (.ops [⟨d22,.p (.iaddrS 2 t18 t20),none⟩,
⟨d23,.r (.ldA 2 t22),none⟩,
⟨d7,.a (.alloc 178 [(.int .i64 (.ofNat 0)),(.int .i64 (.ofNat 0))]),none⟩,
⟨none,.w (.st 2 t7 t23),none⟩])
 (.seq (.ops [⟨d8,.p (.mv k0),none⟩])
 (.seq (.block 4 (.loop (.seq (.seq (.reg [⟨[0],⟨d24,.p (.mv t8),none⟩,0,0⟩,
⟨[1],⟨d25,.p (.mv t3),none⟩,0,0⟩,
⟨[2],⟨d26,.p (.lenSl t25),none⟩,0,0⟩,
⟨[3],⟨d27,.p (.bin .lss t24 t26),none⟩,0,0⟩,
⟨[4],⟨d28,.p (.mv t27),none⟩,0,0⟩,
⟨[5],⟨d29,.p (.mv t3),(some (p28, true))⟩,0,0⟩,
⟨[6],⟨d30,.p (.mv t8),(some (p28, true))⟩,0,0⟩,
⟨[7],⟨d31,.p (.iaddrS 1 t29 t30),(some (p28, true))⟩,0,0⟩,
⟨[8],⟨d32,.r (.ldS t31),(some (p28, true))⟩,0,0⟩,
⟨[9],⟨d33,.p (.faddr 0 t7),(some (p28, true))⟩,0,0⟩,
⟨[10],⟨d34,.r (.ldS t33),(some (p28, true))⟩,0,0⟩,
⟨[11],⟨d35,.p (.bin .lss t32 t34),(some (p28, true))⟩,0,0⟩,
⟨[12],⟨d36,.p (.pick t28 t35 (.c (.bool false))),none⟩,0,0⟩])
 (.cond t36 .skip
 (.exit 4)))
 (.block 5 (.ops [⟨d37,.p (.mv t8),none⟩,
⟨d38,.p (.bin .add t37 k1),none⟩,
⟨d8,.p (.mv t38),none⟩])))))
 (.seq (.seq (.reg [⟨[0],⟨d39,.p (.mv t8),none⟩,0,0⟩,
⟨[1],⟨d40,.p (.mv t3),none⟩,0,0⟩,
⟨[2],⟨d41,.p (.lenSl t40),none⟩,0,0⟩,
⟨[3],⟨d42,.p (.bin .lss t39 t41),none⟩,0,0⟩,
⟨[4],⟨d43,.p (.mv t42),none⟩,0,0⟩,
⟨[5],⟨d44,.p (.mv t3),(some (p43, true))⟩,0,0⟩,
⟨[6],⟨d45,.p (.mv t8),(some (p43, true))⟩,0,0⟩,
⟨[7],⟨d46,.p (.iaddrS 1 t44 t45),(some (p43, true))⟩,0,0⟩,
⟨[8],⟨d47,.r (.ldS t46),(some (p43, true))⟩,0,0⟩,
⟨[9],⟨d48,.p (.faddr 0 t7),(some (p43, true))⟩,0,0⟩,
⟨[10],⟨d49,.r (.ldS t48),(some (p43, true))⟩,0,0⟩,
⟨[11],⟨d50,.p (.bin .eql t47 t49),(some (p43, true))⟩,0,0⟩,
⟨[12],⟨d51,.p (.pick t43 t50 (.c (.bool false))),none⟩,0,0⟩])
 (.cond t51 (.exit 3)
 .skip))
 (.seq (.ops [⟨d52,.a (.bslice 3 1 0 [] []),none⟩,
⟨d53,.p (.mv t3),none⟩,
⟨d54,.p (.mv t8),none⟩,
⟨d55,.p (.slSl 1 t53 none (some t54) none),none⟩,
⟨d56,.w (.app 3 1 8 t52 t55),none⟩,
⟨d9,.p (.mv t56),none⟩])
 (.seq (.ops [⟨d57,.p (.mv t9),none⟩,
⟨d58,.p (.faddr 0 t7),none⟩,
⟨d59,.r (.ldS t58),none⟩,
⟨d60,.a (.bslice 3 1 1 [(.int .i64 (.ofNat 0))] [(0, 1, t59)]),none⟩,
⟨d61,.w (.app 3 1 8 t57 t60),none⟩,
⟨d9,.p (.mv t61),none⟩])
 (.ops [⟨d62,.p (.mv t9),none⟩,
⟨d63,.p (.mv t3),none⟩,
⟨d64,.p (.mv t8),none⟩,
⟨d65,.p (.slSl 1 t63 (some t64) none none),none⟩,
⟨d66,.w (.app 3 1 8 t62 t65),none⟩,
⟨d3,.p (.mv t66),none⟩]))))))))
 (.ops [⟨d67,.p (.bin .add t20 k1),none⟩,
⟨d20,.p (.mv t67),none⟩])))))))))
 (.ops [⟨d68,.p (.bin .add t13 k1),none⟩,
⟨d13,.p (.mv t68),none⟩])))))))
 (.seq (.ops [⟨d69,.p (.mv t3),none⟩,
⟨d2,.p (.mv t69),none⟩])
 .ret))))⟩
theorem c257 : Go.Ev.EntOk Go.Proofs.Tryz.prog (257, f257) := ⟨Go.Proofs.Tryz.f257, Go.Proofs.Tryz.func257, by kernel_rfl, Go.Proofs.Tryz.call257⟩
def f258 : IFunc := ⟨2, [.t p4], (.seq (.ops [⟨d2,.a (.box 49 t0),none⟩,
⟨d4,.p (.mv k0),none⟩])
 (.seq (.seq (.ops [⟨d7,.p (.faddr 1 t2),none⟩,
⟨d8,.r (.ldS t7),none⟩,
⟨d9,.p (.lenSl t8),none⟩,
⟨d10,.p (.mv k0),none⟩])
 (.block 0 (.loop (.seq (.ops [⟨d11,.p (.bin .lss t10 t9),none⟩])
 (.seq (.cond t11 .skip
 (.exit 0))
 (.seq (.block 1 (.seq (.ops [⟨d12,.p (.iaddrS 2 t8 t10),none⟩,
⟨d13,.r (.ldA 2 t12),none⟩,
⟨d6,.a (.alloc 178 [(.int .i64 (.ofNat 0)),(.int .i64 (.ofNat 0))]),none⟩,
⟨none,.w (.st 2 t6 t13),none⟩])
 (.seq (.ops [⟨d14,.p (.faddr 0 t6),none⟩,
⟨d15,.r (.ldS t14),none⟩,
⟨d16,.p (.mv t1),none⟩,
⟨d17,.p (.bin .eql t15 t16),none⟩])
 (.cond t17 (.seq (.ops [⟨d18,.p (.faddr 1 t6),none⟩,
⟨d19,.r (.ldS t18),none⟩,
⟨d4,.p (.mv t19),none⟩])
 .ret)
 .skip))))
 (.ops [⟨d20,.p (.bin .add t10 k1),none⟩,
⟨d10,.p (.mv t20),none⟩])))))))
 (.seq (.ops [⟨d21,.p (.faddr 0 t2),none⟩,
⟨d22,.r (.ldS t21),none⟩,
⟨d4,.p (.mv t22),none⟩])
 .ret)))⟩
theorem c258 : Go.Ev.EntOk Go.Proofs.Tryz.prog (258, f258) := ⟨Go.Proofs.Tryz.f258, Go.Proofs.Tryz.func258, by kernel_rfl, Go.Proofs.Tryz.call258⟩
def f259 : IFunc := ⟨1, [.t p2], (.seq (.ops [⟨d2,.p (.mv (.c .nils)),none⟩])
 (.seq (.ops [⟨d3,.p (.mv t0),none⟩,
⟨d4,.call p257 [t3],none⟩,
⟨d5,.a (.bslice 3 1 1 [(.int .i64 (.ofNat 0))] [(0, 1, k0)]),none⟩,
⟨d6,.w (.app 3 1 8 t4 t5),none⟩,
⟨d2,.p (.mv t6),none⟩])
 .ret))⟩
theorem c259 : Go.Ev.EntOk Go.Proofs.Tryz.prog (259, f259) := ⟨Go.Proofs.Tryz.f259, Go.Proofs.Tryz.func259, by kernel_rfl, Go.Proofs.Tryz.call259⟩
def f260 : IFunc := ⟨2, [.t p4], (.seq (.ops [⟨d2,.a (.box 49 t0),none⟩,
⟨d4,.p (.mv k0),none⟩])
 (.seq (.seq (.ops [⟨d5,.p (.mv t1),none⟩,
⟨d6,.p (.bin .eql t5 k0),none⟩])
 (.cond t6 (.seq (.ops [⟨d7,.p (.faddr 0 t2),none⟩,
⟨d8,.r (.ldS t7),none⟩,
⟨d4,.p (.mv t8),none⟩])
 .ret)
 .skip))
 (.seq (.ops [⟨d9,.r (.ldA 2 t2),none⟩,
⟨d10,.p (.mv t1),none⟩,
⟨d11,.call p258 [t9,t10],none⟩,
⟨d4,.p (.mv t11),none⟩])
 .ret)))⟩
theorem c260 : Go.Ev.EntOk Go.Proofs.Tryz.prog (260, f260) := ⟨Go.Proofs.Tryz.f260, Go.Proofs.Tryz.func260, by kernel_rfl, Go.Proofs.Tryz.call260⟩
def f261 : IFunc := ⟨3, [.cA p6 2], (.seq (.ops [⟨d3,.a (.box 49 t0),none⟩,
⟨d6,.a (.alloc 49 [(.int .i64 (.ofNat 0)),.nils]),none⟩])
 (.seq (.ops [⟨d11,.p (.faddr 0 t3),none⟩,
⟨d12,.r (.ldS t11),none⟩,
⟨d13,.p (.build [(.int .i64 (.ofNat 0)),.nils] [(0, 1, t12)]),none⟩,
⟨d7,.a (.alloc 49 [(.int .i64 (.ofNat 0)),.nils]),none⟩,
⟨none,.w (.st 2 t7 t13),none⟩])
 (.seq (.seq (.ops [⟨d14,.p (.faddr 0 t3),none⟩,
⟨d15,.r (.ldS t14),none⟩,
⟨d16,.p (.mv t1),none⟩,
⟨d17,.p (.bin .eql t15 t16),none⟩])
 (.cond t17 (.ops [⟨d18,.p (.mv t2),none⟩,
⟨d19,.p (.faddr 0 t7),none⟩,
⟨none,.w (.st 1 t19 t18),none⟩])
 .skip))
 (.seq (.seq (.ops [⟨d20,.p (.faddr 1 t3),none⟩,
⟨d21,.r (.ldS t20),none⟩,
⟨d22,.p (.lenSl t21),none⟩,
⟨d23,.p (.mv k0),none⟩])
 (.block 0 (.loop (.seq (.ops [⟨d24,.p (.bin .lss t23 t22),none⟩])
 (.seq (.cond t24 .skip
 (.exit 0))
 (.seq (.block 1 (.seq (.ops [⟨d25,.p (.iaddrS 2 t21 t23),none⟩,
⟨d26,.r (.ldA 2 t25),none⟩,
⟨d9,.a (.alloc 178 [(.int .i64 (.ofNat 0)),(.int .i64 (.ofNat 0))]),none⟩,
⟨none,.w (.st 2 t9 t26),none⟩])
 (.seq (.ops [⟨d27,.p (.faddr 1 t9),none⟩,
⟨d28,.r (.ldS t27),none⟩,
⟨d10,.p (.mv t28),none⟩])
 (.seq (.seq (.ops [⟨d29,.p (.mv t10),none⟩,
⟨d30,.p (.mv t1),none⟩,
⟨d31,.p (.bin .eql t29 t30),none⟩])
 (.cond t31 (.ops [⟨d32,.p (.mv t2),none⟩,
⟨d10,.p (.mv t32),none⟩])
 .skip))
 (.ops [⟨d33,.r (.ldA 2 t7),none⟩,
⟨d34,.p (.faddr 0 t9),none⟩,
⟨d35,.r (.ldS t34),none⟩,
⟨d36,.p (.mv t10),none⟩,
⟨d37,.call p269 [t33,t35,t36],none⟩,
⟨none,.w (.st 2 t7 t37),none⟩])))))
 (.ops [⟨d38,.p (.bin .add t23 k1),none⟩,
⟨d23,.p (.mv t38),none⟩])))))))
 (.seq (.ops [⟨d39,.r (.ldA 2 t7),none⟩,
⟨none,.w (.st 2 t6 t39),none⟩])
 .ret)))))⟩
theorem c261 : Go.Ev.EntOk Go.Proofs.Tryz.prog (261, f261) := ⟨Go.Proofs.Tryz.f261, Go.Proofs.Tryz.func261, by kernel_rfl, Go.Proofs.Tryz.call261⟩
def f262 : IFunc := ⟨3, [], (.seq (.ops [⟨d6,.p (.mv k20),none⟩])
 (.seq (.ops [⟨d10,.p (.mv t6),none⟩,
⟨d7,.p (.mv k0),none⟩,
⟨d8,.p (.mv t10),none⟩])
 (.seq (.block 0 (.loop (.seq (.seq (.ops [⟨d11,.p (.mv t8),none⟩,
⟨d12,.p (.mv t1),none⟩,
⟨d13,.p (.bin .leq t11 t12),none⟩])
 (.cond t13 .skip
 (.exit 0)))
 (.block 1 (.seq (.ops [⟨d14,.p (.mv t0),none⟩,
⟨d15,.p (.mv t7),none⟩,
⟨d16,.p (.mv t8),none⟩,
⟨d17,.p (.mv t2),none⟩,
⟨d18,.call p270 [t14,t15,t16,t17],none⟩])
 (.seq (.ops [⟨d19,.p (.mv t8),none⟩,
⟨d7,.p (.mv t19),none⟩])
 (.ops [⟨d20,.p (.mv t8),none⟩,
⟨d21,.p (.mv t6),none⟩,
⟨d22,.p (.bin .add t20 t21),none⟩,
⟨d8,.p (.mv t22),none⟩])))))))
 (.seq (.ops [⟨d23,.p (.mv t0),none⟩,
⟨d24,.p (.mv t7),none⟩,
⟨d25,.p (.mv t1),none⟩,
⟨d26,.p (.mv t2),none⟩,
⟨d27,.call p270 [t23,t24,t25,t26],none⟩])
 (.block 2 (.loop (.seq (.seq (.ops [⟨d28,.p (.mv t6),none⟩,
⟨d29,.p (.mv t1),none⟩,
⟨d30,.p (.bin .lss t28 t29),none⟩])
 (.cond t30 .skip
 (.exit 2)))
 (.block 3 (.seq (.ops [⟨d31,.p (.mv t6),none⟩,
⟨d32,.p (.bin .mul k2 t31),none⟩,
⟨d7,.p (.mv k0),none⟩,
⟨d8,.p (.mv t32),none⟩])
 (.seq (.block 4 (.loop (.seq (.seq (.ops [⟨d33,.p (.mv t8),none⟩,
⟨d34,.p (.mv t1),none⟩,
⟨d35,.p (.bin .leq t33 t34),none⟩])
 (.cond t35 .skip
 (.exit 4)))
 (.block 5 (.seq (.ops [⟨d36,.p (.mv t0),none⟩,
⟨d37,.p (.mv t7),none⟩,
⟨d38,.p (.mv t7),none⟩,
⟨d39,.p (.mv t6),none⟩,
⟨d40,.p (.bin .add t38 t39),none⟩,
⟨d41,.p (.mv t8),none⟩,
⟨d42,.p (.mv t2),none⟩,
⟨d43,.call p271 [t36,t37,t40,t41,t42],none⟩])
 (.seq (.ops [⟨d44,.p (.mv t8),none⟩,
⟨d7,.p (.mv t44),none⟩])
 (.ops [⟨d45,.p (.mv t8),none⟩,
⟨d46,.p (.mv t6),none⟩,
⟨d47,.p (.bin .mul k2 t46),none⟩,
⟨d48,.p (.bin .add t45 t47),none⟩,
⟨d8,.p (.mv t48),none⟩])))))))
 (.seq (.seq (.ops [⟨d49,.p (.mv t7),none⟩,
⟨d50,.p (.mv t6),none⟩,
⟨d51,.p (.bin .add t49 t50),none⟩,
⟨d9,.p (.mv t51),none⟩])
 (.seq (.ops [⟨d52,.p (.mv t9),none⟩,
⟨d53,.p (.mv t1),none⟩,
⟨d54,.p (.bin .lss t52 t53),none⟩])
 (.cond t54 (.ops [⟨d55,.p (.mv t0),none⟩,
⟨d56,.p (.mv t7),none⟩,
⟨d57,.p (.mv t9),none⟩,
⟨d58,.p (.mv t1),none⟩,
⟨d59,.p (.mv t2),none⟩,
⟨d60,.call p271 [t55,t56,t57,t58,t59],none⟩])
 .skip)))
 (.ops [⟨d61,.p (.mv t6),none⟩,
⟨d62,.p (.bin .mul t61 k2),none⟩,
⟨d6,.p (.mv t62),none⟩]))))))))))))⟩
theorem c262 : Go.Ev.EntOk Go.Proofs.Tryz.prog (262, f262) := ⟨Go.Proofs.Tryz.f262, Go.Proofs.Tryz.func262, by kernel_rfl, Go.Proofs.Tryz.call262⟩
def f263 : IFunc := ⟨2, [.t p4], (.seq (.ops [⟨d4,.p (.mv k0),none⟩])
 (.seq (.seq (.ops [⟨d6,.p (.mv t0),none⟩,
⟨d7,.p (.lenSl t6),none⟩,
⟨d8,.p (.mv k0),none⟩])
 (.block 0 (.loop (.seq (.ops [⟨d9,.p (.bin .lss t8 t7),none⟩])
 (.seq (.cond t9 .skip
 (.exit 0))
 (.seq (.block 1 (.seq (.ops [⟨d10,.p (.mv t8),none⟩,
⟨d5,.p (.mv t10),none⟩])
 (.seq (.ops [⟨d11,.p (.mv t1),none⟩,
⟨d12,.p (.mv t0),none⟩,
⟨d13,.p (.mv t5),none⟩,
⟨d14,.p (.iaddrS 1 t12 t13),none⟩,
⟨d15,.r (.ldS t14),none⟩,
⟨d16,.callv t11 [t15],none⟩])
 (.cond t16 (.seq (.ops [⟨d17,.p (.mv t5),none⟩,
⟨d4,.p (.mv t17),none⟩])
 .ret)
 .skip))))
 (.ops [⟨d18,.p (.bin .add t8 k1),none⟩,
⟨d8,.p (.mv t18),none⟩])))))))
 (.seq (.ops [⟨d4,.p (.mv (.c (.int .i64 (.negSucc 0)))),none⟩])
 .ret)))⟩
theorem c263 : Go.Ev.EntOk Go.Proofs.Tryz.prog (263, f263) := ⟨Go.Proofs.Tryz.f263, Go.Proofs.Tryz.func263, by kernel_rfl, Go.Proofs.Tryz.call263⟩
def f264 : IFunc := ⟨5, [], (.seq (.ops [⟨d10,.p (.mv (.c (.bool true))),none⟩])
 (.seq (.ops [⟨d11,.p (.mv (.c (.bool true))),none⟩])
 (.block 0 (.loop (.block 1 (.seq (.ops [⟨d21,.p (.mv t2),none⟩,
⟨d22,.p (.mv t1),none⟩,
⟨d23,.p (.bin .sub t21 t22),none⟩,
⟨d12,.p (.mv t23),none⟩])
 (.seq (.seq (.ops [⟨d24,.p (.mv t12),none⟩,
⟨d25,.p (.bin .leq t24 k12),none⟩])
 (.cond t25 (.seq (.ops [⟨d26,.p (.mv t0),none⟩,
⟨d27,.p (.mv t1),none⟩,
⟨d28,.p (.mv t2),none⟩,
⟨d29,.p (.mv t4),none⟩,
⟨d30,.call p272 [t26,t27,t28,t29],none⟩])
 .ret)
 .skip))
 (.seq (.seq (.ops [⟨d31,.p (.mv t3),none⟩,
⟨d32,.p (.bin .eql t31 k0),none⟩])
 (.cond t32 (.seq (.ops [⟨d33,.p (.mv t0),none⟩,
⟨d34,.p (.mv t1),none⟩,
⟨d35,.p (.mv t2),none⟩,
⟨d36,.p (.mv t4),none⟩,
⟨d37,.call p273 [t33,t34,t35,t36],none⟩])
 .ret)
 .skip))
 (.seq (.seq (.ops [⟨d38,.p (.mv t10),none⟩,
⟨d39,.p (.not t38),none⟩])
 (.cond t39 (.seq (.ops [⟨d40,.p (.mv t0),none⟩,
⟨d41,.p (.mv t1),none⟩,
⟨d42,.p (.mv t2),none⟩,
⟨d43,.p (.mv t4),none⟩,
⟨d44,.call p274 [t40,t41,t42,t43],none⟩])
 (.ops [⟨d45,.p (.mv t3),none⟩,
⟨d46,.p (.bin .sub t45 k1),none⟩,
⟨d3,.p (.mv t46),none⟩]))
 .skip))
 (.seq (.ops [⟨d48,.p (.mv t0),none⟩,
⟨d49,.p (.mv t1),none⟩,
⟨d50,.p (.mv t2),none⟩,
⟨d51,.p (.mv t4),none⟩,
⟨d52,.call p275 [t48,t49,t50,t51],none⟩,
⟨d47,.p (.mv t52),none⟩,
⟨d53,.p (.ext t47 0),none⟩,
⟨d54,.p (.ext t47 1),none⟩,
⟨d13,.p (.mv t53),none⟩,
⟨d14,.p (.mv t54),none⟩])
 (.seq (.seq (.ops [⟨d55,.p (.mv t14),none⟩,
⟨d56,.p (.bin .eql t55 k2),none⟩])
 (.cond t56 (.seq (.ops [⟨d57,.p (.mv t0),none⟩,
⟨d58,.p (.mv t1),none⟩,
⟨d59,.p (.mv t2),none⟩,
⟨d60,.p (.mv t4),none⟩,
⟨d61,.call p276 [t57,t58,t59,t60],none⟩])
 (.seq (.ops [⟨d62,.p (.mv t2),none⟩,
⟨d63,.p (.bin .sub t62 k1),none⟩,
⟨d64,.p (.mv t13),none⟩,
⟨d65,.p (.mv t1),none⟩,
⟨d66,.p (.bin .sub t64 t65),none⟩,
⟨d67,.p (.bin .sub t63 t66),none⟩,
⟨d13,.p (.mv t67),none⟩])
 (.ops [⟨d14,.p (.mv k1),none⟩])))
 .skip))
 (.seq (.seq (.ops [⟨d68,.p (.mv t10),none⟩,
⟨d69,.p (.mv t68),none⟩,
⟨d70,.p (.mv t11),(some (p69, true))⟩,
⟨d71,.p (.pick t69 t70 (.c (.bool false))),none⟩,
⟨d72,.p (.mv t71),none⟩,
⟨d73,.p (.mv t14),(some (p72, true))⟩,
⟨d74,.p (.bin .eql t73 k1),(some (p72, true))⟩,
⟨d75,.p (.pick t72 t74 (.c (.bool false))),none⟩])
 (.cond t75 (.seq (.ops [⟨d76,.p (.mv t0),none⟩,
⟨d77,.p (.mv t1),none⟩,
⟨d78,.p (.mv t2),none⟩,
⟨d79,.p (.mv t4),none⟩,
⟨d80,.call p277 [t76,t77,t78,t79],none⟩])
 (.cond t80 .ret
 .skip))
 .skip))
 (.seq (.seq (.reg [⟨[0],⟨d81,.p (.mv t1),none⟩,0,0⟩,
⟨[1],⟨d82,.p (.bin .gtr t81 k0),none⟩,0,0⟩,
⟨[2],⟨d83,.p (.mv t82),none⟩,0,0⟩,
⟨[3],⟨d84,.p (.mv t4),(some (p83, true))⟩,0,0⟩,
⟨[4],⟨d85,.p (.mv t0),(some (p83, true))⟩,0,0⟩,
⟨[5],⟨d86,.p (.mv t1),(some (p83, true))⟩,0,0⟩,
⟨[6],⟨d87,.p (.bin .sub t86 k1),(some (p83, true))⟩,0,0⟩,
⟨[7],⟨d88,.p (.iaddrS 1 t85 t87),(some (p83, true))⟩,0,0⟩,
⟨[8],⟨d89,.r (.ldS t88),(some (p83, true))⟩,0,0⟩,
⟨[9],⟨d90,.p (.mv t0),(some (p83, true))⟩,0,0⟩,
⟨[10],⟨d91,.p (.mv t13),(some (p83, true))⟩,0,0⟩,
⟨[11],⟨d92,.p (.iaddrS 1 t90 t91),(some (p83, true))⟩,0,0⟩,
⟨[12],⟨d93,.r (.ldS t92),(some (p83, true))⟩,0,0⟩,
⟨[13],⟨d94,.callv t84 [t89,t93],(some (p83, true))⟩,0,0⟩,
⟨[14],⟨d95,.p (.bin .lss t94 k0),(some (p83, true))⟩,1,1⟩,
⟨[15],⟨d96,.p (.not t95),(some (p83, true))⟩,1,1⟩,
⟨[16],⟨d97,.p (.pick t83 t96 (.c (.bool false))),none⟩,1,1⟩])
 (.cond t97 (.seq (.ops [⟨d98,.p (.mv t0),none⟩,
⟨d99,.p (.mv t1),none⟩,
⟨d100,.p (.mv t2),none⟩,
⟨d101,.p (.mv t13),none⟩,
⟨d102,.p (.mv t4),none⟩,
⟨d103,.call p278 [t98,t99,t100,t101,t102],none⟩,
⟨d15,.p (.mv t103),none⟩])
 (.seq (.ops [⟨d104,.p (.mv t15),none⟩,
⟨d1,.p (.mv t104),none⟩])
 (.exit 1)))
 .skip))
 (.seq (.ops [⟨d106,.p (.mv t0),none⟩,
⟨d107,.p (.mv t1),none⟩,
⟨d108,.p (.mv t2),none⟩,
⟨d109,.p (.mv t13),none⟩,
⟨d110,.p (.mv t4),none⟩,
⟨d111,.call p279 [t106,t107,t108,t109,t110],none⟩,
⟨d105,.p (.mv t111),none⟩,
⟨d112,.p (.ext t105 0),none⟩,
⟨d113,.p (.ext t105 1),none⟩,
⟨d16,.p (.mv t112),none⟩,
⟨d17,.p (.mv t113),none⟩])
 (.seq (.ops [⟨d114,.p (.mv t17),none⟩,
⟨d11,.p (.mv t114),none⟩])
 (.seq (.ops [⟨d115,.p (.mv t16),none⟩,
⟨d116,.p (.mv t1),none⟩,
⟨d117,.p (.bin .sub t115 t116),none⟩,
⟨d118,.p (.mv t2),none⟩,
⟨d119,.p (.mv t16),none⟩,
⟨d120,.p (.bin .sub t118 t119),none⟩,
⟨d18,.p (.mv t117),none⟩,
⟨d19,.p (.mv t120),none⟩])
 (.seq (.ops [⟨d121,.p (.mv t12),none⟩,
⟨d122,.p (.bin .quo t121 k8),none⟩,
⟨d20,.p (.mv t122),none⟩])
 (.seq (.ops [⟨d123,.p (.mv t18),none⟩,
⟨d124,.p (.mv t19),none⟩,
⟨d125,.p (.bin .lss t123 t124),none⟩])
 (.cond t125 (.seq (.ops [⟨d126,.p (.mv t18),none⟩,
⟨d127,.p (.mv t20),none⟩,
⟨d128,.p (.bin .geq t126 t127),none⟩,
⟨d10,.p (.mv t128),none⟩])
 (.seq (.ops [⟨d129,.p (.mv t0),none⟩,
⟨d130,.p (.mv t1),none⟩,
⟨d131,.p (.mv t16),none⟩,
⟨d132,.p (.mv t3),none⟩,
⟨d133,.p (.mv t4),none⟩,
⟨d134,.call p264 [t129,t130,t131,t132,t133],none⟩])
 (.ops [⟨d135,.p (.mv t16),none⟩,
⟨d136,.p (.bin .add t135 k1),none⟩,
⟨d1,.p (.mv t136),none⟩])))
 (.seq (.ops [⟨d137,.p (.mv t19),none⟩,
⟨d138,.p (.mv t20),none⟩,
⟨d139,.p (.bin .geq t137 t138),none⟩,
⟨d10,.p (.mv t139),none⟩])
 (.seq (.ops [⟨d140,.p (.mv t0),none⟩,
⟨d141,.p (.mv t16),none⟩,
⟨d142,.p (.bin .add t141 k1),none⟩,
⟨d143,.p (.mv t2),none⟩,
⟨d144,.p (.mv t3),none⟩,
⟨d145,.p (.mv t4),none⟩,
⟨d146,.call p264 [t140,t142,t143,t144,t145],none⟩])
 (.ops [⟨d147,.p (.mv t16),none⟩,
⟨d2,.p (.mv t147),none⟩]))))))))))))))))))))))⟩
theorem c264 : Go.Ev.EntOk Go.Proofs.Tryz.prog (264, f264) := ⟨Go.Proofs.Tryz.f264, Go.Proofs.Tryz.func264, by kernel_rfl, Go.Proofs.Tryz.call264⟩
def f265 : IFunc := ⟨1, [.t p2], (.seq (.ops [⟨d2,.p (.mv k0),none⟩])
 (.seq (.cond (.c (.bool false)) (.seq (.ops [⟨d3,.p (.mv t0),none⟩,
⟨d4,.p (.conv .u32 t3),none⟩,
⟨d5,.call p280 [t4],none⟩,
⟨d2,.p (.mv t5),none⟩])
 .ret)
 .skip)
 (.seq (.ops [⟨d6,.p (.mv t0),none⟩,
⟨d7,.call p281 [t6],none⟩,
⟨d2,.p (.mv t7),none⟩])
 .ret)))⟩
theorem c265 : Go.Ev.EntOk Go.Proofs.Tryz.prog (265, f265) := ⟨Go.Proofs.Tryz.f265, Go.Proofs.Tryz.func265, by kernel_rfl, Go.Proofs.Tryz.call265⟩
def f268 : IFunc := ⟨1, [.t p2], (.seq (.ops [⟨d2,.p (.mv (.c (.bool false))),none⟩])
 (.seq (.ops [⟨d3,.p (.mv t0),none⟩,
⟨d4,.p (.bin .geq t3 k0),none⟩,
⟨d5,.p (.mv t4),none⟩,
⟨d6,.p (.mv t0),(some (p5, true))⟩,
⟨d7,.p (.bin .leq t6 k5),(some (p5, true))⟩,
⟨d8,.p (.pick t5 t7 (.c (.bool false))),none⟩,
⟨d2,.p (.mv t8),none⟩])
 .ret))⟩
theorem c268 : Go.Ev.EntOk Go.Proofs.Tryz.prog (268, f268) := ⟨Go.Proofs.Tryz.f268, Go.Proofs.Tryz.func268, by kernel_rfl, Go.Proofs.Tryz.call268⟩
def f269 : IFunc := ⟨3, [.cA p6 2], (.seq (.ops [⟨d3,.a (.box 49 t0),none⟩,
⟨d6,.a (.alloc 49 [(.int .i64 (.ofNat 0)),.nils]),none⟩])
 (.seq (.seq (.ops [⟨d7,.p (.mv t2),none⟩,
⟨d8,.p (.faddr 0 t3),none⟩,
⟨d9,.r (.ldS t8),none⟩,
⟨d10,.p (.bin .neq t7 t9),none⟩])
 (.cond t10 (.ops [⟨d11,.a (.bslice 178 2 0 [] []),none⟩,
⟨d12,.p (.faddr 1 t3),none⟩,
⟨d13,.r (.ldS t12),none⟩,
⟨d14,.w (.app 178 2 16 t11 t13),none⟩,
⟨d15,.p (.mv t1),none⟩,
⟨d16,.p (.mv t2),none⟩,
⟨d17,.p (.build [(.int .i64 (.ofNat 0)),(.int .i64 (.ofNat 0))] [(0, 1, t15),(1, 1, t16)]),none⟩,
⟨d18,.a (.bslice 178 2 1 [(.int .i64 (.ofNat 0)),(.int .i64 (.ofNat 0))] [(0, 2, t17)]),none⟩,
⟨d19,.w (.app 178 2 16 t14 t18),none⟩,
⟨d20,.p (.faddr 1 t3),none⟩,
⟨none,.w (.st 1 t20 t19),none⟩])
 .skip))
 (.seq (.ops [⟨d21,.r (.ldA 2 t3),none⟩,
⟨none,.w (.st 2 t6 t21),none⟩])
 .ret)))⟩
theorem c269 : Go.Ev.EntOk Go.Proofs.Tryz.prog (269, f269) := ⟨Go.Proofs.Tryz.f269, Go.Proofs.Tryz.func269, by kernel_rfl, Go.Proofs.Tryz.call269⟩
def f270 : IFunc := ⟨4, [], (.seq (.ops [⟨d10,.p (.mv t1),none⟩,
⟨d11,.p (.bin .add t10 k1),none⟩,
⟨d8,.p (.mv t11),none⟩])
 (.block 0 (.loop (.seq (.seq (.ops [⟨d12,.p (.mv t8),none⟩,
⟨d13,.p (.mv t2),none⟩,
⟨d14,.p (.bin .lss t12 t13),none⟩])
 (.cond t14 .skip
 (.exit 0)))
 (.seq (.block 1 (.seq (.ops [⟨d17,.p (.mv t8),none⟩,
⟨d9,.p (.mv t17),none⟩])
 (.block 2 (.loop (.seq (.seq (.reg [⟨[0],⟨d18,.p (.mv t9),none⟩,0,0⟩,
⟨[1],⟨d19,.p (.mv t1),none⟩,0,0⟩,
⟨[2],⟨d20,.p (.bin .gtr t18 t19),none⟩,0,0⟩,
⟨[3],⟨d21,.p (.mv t20),none⟩,0,0⟩,
⟨[4],⟨d22,.p (.mv t3),(some (p21, true))⟩,0,0⟩,
⟨[5],⟨d23,.p (.mv t0),(some (p21, true))⟩,0,0⟩,
⟨[6],⟨d24,.p (.mv t9),(some (p21, true))⟩,0,0⟩,
⟨[7],⟨d25,.p (.iaddrS 2 t23 t24),(some (p21, true))⟩,0,0⟩,
⟨[8],⟨d26,.r (.ldA 2 t25),(some (p21, true))⟩,0,0⟩,
⟨[9],⟨d27,.p (.mv t0),(some (p21, true))⟩,0,0⟩,
⟨[10],⟨d28,.p (.mv t9),(some (p21, true))⟩,0,0⟩,
⟨[11],⟨d29,.p (.bin .sub t28 k1),(some (p21, true))⟩,0,0⟩,
⟨[12],⟨d30,.p (.iaddrS 2 t27 t29),(some (p21, true))⟩,0,0⟩,
⟨[13],⟨d31,.r (.ldA 2 t30),(some (p21, true))⟩,0,0⟩,
⟨[14],⟨d32,.callv t22 [t26,t31],(some (p21, true))⟩,0,0⟩,
⟨[15],⟨d33,.p (.bin .lss t32 k0),(some (p21, true))⟩,1,1⟩,
⟨[16],⟨d34,.p (.pick t21 t33 (.c (.bool false))),none⟩,1,1⟩])
 (.cond t34 .skip
 (.exit 2)))
 (.seq (.block 3 (.reg [⟨[0],⟨d37,.p (.mv t0),none⟩,0,0⟩,
⟨[1],⟨d38,.p (.mv t9),none⟩,0,0⟩,
⟨[5],⟨d42,.p (.mv t0),none⟩,0,0⟩,
⟨[6],⟨d43,.p (.mv t9),none⟩,0,0⟩,
⟨[7],⟨d44,.p (.bin .sub t43 k1),none⟩,0,0⟩,
⟨[8],⟨d45,.p (.iaddrS 2 t42 t44),none⟩,0,0⟩,
⟨[9],⟨d46,.r (.ldA 2 t45),none⟩,0,0⟩,
⟨[10],⟨d47,.p (.mv t0),none⟩,0,0⟩,
⟨[11],⟨d48,.p (.mv t9),none⟩,0,0⟩,
⟨[12],⟨d49,.p (.iaddrS 2 t47 t48),none⟩,0,0⟩,
⟨[13],⟨d50,.r (.ldA 2 t49),none⟩,0,0⟩,
⟨[14],⟨d51,.p (.iaddrS 2 t37 t38),none⟩,0,0⟩,
⟨[15],⟨none,.w (.st 2 t51 t46),none⟩,0,0⟩,
⟨[2],⟨d39,.p (.mv t0),none⟩,0,1⟩,
⟨[3],⟨d40,.p (.mv t9),none⟩,0,1⟩,
⟨[4],⟨d41,.p (.bin .sub t40 k1),none⟩,0,1⟩,
⟨[16],⟨d52,.p (.iaddrS 2 t39 t41),none⟩,1,1⟩,
⟨[17],⟨none,.w (.st 2 t52 t50),none⟩,1,1⟩]))
 (.ops [⟨d35,.p (.mv t9),none⟩,
⟨d36,.p (.bin .sub t35 k1),none⟩,
⟨d9,.p (.mv t36),none⟩])))))))
 (.ops [⟨d15,.p (.mv t8),none⟩,
⟨d16,.p (.bin .add t15 k1),none⟩,
⟨d8,.p (.mv t16),none⟩]))))))⟩
theorem c270 : Go.Ev.EntOk Go.Proofs.Tryz.prog (270, f270) := ⟨Go.Proofs.Tryz.f270, Go.Proofs.Tryz.func270, by kernel_rfl, Go.Proofs.Tryz.call270⟩
def f272 : IFunc := ⟨4, [], (.seq (.ops [⟨d10,.p (.mv t1),none⟩,
⟨d11,.p (.bin .add t10 k1),none⟩,
⟨d8,.p (.mv t11),none⟩])
 (.block 0 (.loop (.seq (.seq (.ops [⟨d12,.p (.mv t8),none⟩,
⟨d13,.p (.mv t2),none⟩,
⟨d14,.p (.bin .lss t12 t13),none⟩])
 (.cond t14 .skip
 (.exit 0)))
 (.seq (.block 1 (.seq (.ops [⟨d17,.p (.mv t8),none⟩,
⟨d9,.p (.mv t17),none⟩])
 (.block 2 (.loop (.seq (.seq (.reg [⟨[0],⟨d18,.p (.mv t9),none⟩,0,0⟩,
⟨[1],⟨d19,.p (.mv t1),none⟩,0,0⟩,
⟨[2],⟨d20,.p (.bin .gtr t18 t19),none⟩,0,0⟩,
⟨[3],⟨d21,.p (.mv t20),none⟩,0,0⟩,
⟨[4],⟨d22,.p (.mv t3),(some (p21, true))⟩,0,0⟩,
⟨[5],⟨d23,.p (.mv t0),(some (p21, true))⟩,0,0⟩,
⟨[6],⟨d24,.p (.mv t9),(some (p21, true))⟩,0,0⟩,
⟨[7],⟨d25,.p (.iaddrS 1 t23 t24),(some (p21, true))⟩,0,0⟩,
⟨[8],⟨d26,.r (.ldS t25),(some (p21, true))⟩,0,0⟩,
⟨[9],⟨d27,.p (.mv t0),(some (p21, true))⟩,0,0⟩,
⟨[10],⟨d28,.p (.mv t9),(some (p21, true))⟩,0,0⟩,
⟨[11],⟨d29,.p (.bin .sub t28 k1),(some (p21, true))⟩,0,0⟩,
⟨[12],⟨d30,.p (.iaddrS 1 t27 t29),(some (p21, true))⟩,0,0⟩,
⟨[13],⟨d31,.r (.ldS t30),(some (p21, true))⟩,0,0⟩,
⟨[14],⟨d32,.callv t22 [t26,t31],(some (p21, true))⟩,0,0⟩,
⟨[15],⟨d33,.p (.bin .lss t32 k0),(some (p21, true))⟩,1,1⟩,
⟨[16],⟨d34,.p (.pick t21 t33 (.c (.bool false))),none⟩,1,1⟩])
 (.cond t34 .skip
 (.exit 2)))
 (.seq (.block 3 (.reg [⟨[0],⟨d37,.p (.mv t0),none⟩,0,0⟩,
⟨[1],⟨d38,.p (.mv t9),none⟩,0,0⟩,
⟨[5],⟨d42,.p (.mv t0),none⟩,0,0⟩,
⟨[6],⟨d43,.p (.mv t9),none⟩,0,0⟩,
⟨[7],⟨d44,.p (.bin .sub t43 k1),none⟩,0,0⟩,
⟨[8],⟨d45,.p (.iaddrS 1 t42 t44),none⟩,0,0⟩,
⟨[9],⟨d46,.r (.ldS t45),none⟩,0,0⟩,
⟨[10],⟨d47,.p (.mv t0),none⟩,0,0⟩,
⟨[11],⟨d48,.p (.mv t9),none⟩,0,0⟩,
⟨[12],⟨d49,.p (.iaddrS 1 t47 t48),none⟩,0,0⟩,
⟨[13],⟨d50,.r (.ldS t49),none⟩,0,0⟩,
⟨[14],⟨d51,.p (.iaddrS 1 t37 t38),none⟩,0,0⟩,
⟨[15],⟨none,.w (.st 1 t51 t46),none⟩,0,0⟩,
⟨[2],⟨d39,.p (.mv t0),none⟩,0,1⟩,
⟨[3],⟨d40,.p (.mv t9),none⟩,0,1⟩,
⟨[4],⟨d41,.p (.bin .sub t40 k1),none⟩,0,1⟩,
⟨[16],⟨d52,.p (.iaddrS 1 t39 t41),none⟩,1,1⟩,
⟨[17],⟨none,.w (.st 1 t52 t50),none⟩,1,1⟩]))
 (.ops [⟨d35,.p (.mv t9),none⟩,
⟨d36,.p (.bin .sub t35 k1),none⟩,
⟨d9,.p (.mv t36),none⟩])))))))
 (.ops [⟨d15,.p (.mv t8),none⟩,
⟨d16,.p (.bin .add t15 k1),none⟩,
⟨d8,.p (.mv t16),none⟩]))))))⟩
theorem c272 : Go.Ev.EntOk Go.Proofs.Tryz.prog (272, f272) := ⟨Go.Proofs.Tryz.f272, Go.Proofs.Tryz.func272, by kernel_rfl, Go.Proofs.Tryz.call272⟩
def f281 : IFunc := ⟨1, [.t p2], (.seq (.ops [⟨d2,.p (.mv k0),none⟩])
 (.seq (.seq (.ops [⟨d3,.p (.mv t0),none⟩,
⟨d4,.p (.bin .geq t3 (.c (.int .u64 (.ofNat 4294967296)))),none⟩])
 (.cond t4 (.seq (.ops [⟨d5,.p (.mv t0),none⟩,
⟨d6,.p (.bin .shr t5 (.c (.int .u64 (.ofNat 32)))),none⟩,
⟨d0,.p (.mv t6),none⟩])
 (.ops [⟨d2,.p (.mv k32),none⟩]))
 .skip))
 (.seq (.seq (.ops [⟨d7,.p (.mv t0),none⟩,
⟨d8,.p (.bin .geq t7 (.c (.int .u64 (.ofNat 65536)))),none⟩])
 (.cond t8 (.seq (.ops [⟨d9,.p (.mv t0),none⟩,
⟨d10,.p (.bin .shr t9 (.c (.int .u64 (.ofNat 16)))),none⟩,
⟨d0,.p (.mv t10),none⟩])
 (.ops [⟨d11,.p (.mv t2),none⟩,
⟨d12,.p (.bin .add t11 k16),none⟩,
⟨d2,.p (.mv t12),none⟩]))
 .skip))
 (.seq (.seq (.ops [⟨d13,.p (.mv t0),none⟩,
⟨d14,.p (.bin .geq t13 (.c (.int .u64 (.ofNat 256)))),none⟩])
 (.cond t14 (.seq (.ops [⟨d15,.p (.mv t0),none⟩,
⟨d16,.p (.bin .shr t15 (.c (.int .u64 (.ofNat 8)))),none⟩,
⟨d0,.p (.mv t16),none⟩])
 (.ops [⟨d17,.p (.mv t2),none⟩,
⟨d18,.p (.bin .add t17 k8),none⟩,
⟨d2,.p (.mv t18),none⟩]))
 .skip))
 (.seq (.ops [⟨d19,.p (.mv t2),none⟩,
⟨d20,.p (.mv t0),none⟩,
⟨d21,.p (.conv .u8 t20),none⟩,
⟨d22,.p (.idxStr (.c (.str [0, 1, 2, 2, 3, 3, 3, 3, 4, 4, 4, 4, 4, 4, 4, 4, 5, 5, 5, 5, 5, 5, 5, 5, 5, 5, 5, 5, 5, 5, 5, 5, 6, 6, 6, 6, 6, 6, 6, 6, 6, 6, 6, 6, 6, 6, 6, 6, 6, 6, 6, 6, 6, 6, 6, 6, 6, 6, 6, 6, 6, 6, 6, 6, 7, 7, 7, 7, 7, 7, 7, 7, 7, 7, 7, 7, 7, 7, 7, 7, 7, 7, 7, 7, 7, 7, 7, 7, 7, 7, 7, 7, 7, 7, 7, 7, 7, 7, 7, 7, 7, 7, 7, 7, 7, 7, 7, 7, 7, 7, 7, 7, 7, 7, 7, 7, 7, 7, 7, 7, 7, 7, 7, 7, 7, 7, 7, 7, 8, 8, 8, 8, 8, 8, 8, 8, 8, 8, 8, 8, 8, 8, 8, 8, 8, 8, 8, 8, 8, 8, 8, 8, 8, 8, 8, 8, 8, 8, 8, 8, 8, 8, 8, 8, 8, 8, 8, 8, 8, 8, 8, 8, 8, 8, 8, 8, 8, 8, 8, 8, 8, 8, 8, 8, 8, 8, 8, 8, 8, 8, 8, 8, 8, 8, 8, 8, 8, 8, 8, 8, 8, 8, 8, 8, 8, 8, 8, 8, 8, 8, 8, 8, 8, 8, 8, 8, 8, 8, 8, 8, 8, 8, 8, 8, 8, 8, 8, 8, 8, 8, 8, 8, 8, 8, 8, 8, 8, 8, 8, 8, 8, 8, 8, 8, 8, 8, 8, 8, 8, 8, 8, 8, 8, 8, 8, 8])) t21),none⟩,
⟨d23,.p (.conv .i64 t22),none⟩,
⟨d24,.p (.bin .add t19 t23),none⟩,
⟨d2,.p (.mv t24),none⟩])
 .ret)))))⟩
theorem c281 : Go.Ev.EntOk Go.Proofs.Tryz.prog (281, f281) := ⟨Go.Proofs.Tryz.f281, Go.Proofs.Tryz.func281, by kernel_rfl, Go.Proofs.Tryz.call281⟩
end Go.Ev.G
