import Derived.Test.YtddcnopjjihmcaaGreatG0
import Derived.Test.YtddcnopjjihmcaaGreatRows
import Derived.KernelRfl
namespace Go.Ev.G
open Go.Ev
set_option maxRecDepth 100000
def f5 : IFunc := ⟨2, [.t p4], (.seq (.ops [⟨d4,.p (.mv (.c (.bool false))),none⟩])
 (.seq (.seq (.ops [⟨d24,.call p10 [],none⟩,
⟨d25,.p (.not t24),none⟩])
 (.cond t25 (.seq (.ops [⟨d4,.p (.mv (.c (.bool false))),none⟩])
 .ret)
 .skip))
 (.seq (.ops [⟨d27,.call p11 [],none⟩,
⟨d26,.p (.mv t27),none⟩,
⟨d28,.p (.ext t26 0),none⟩,
⟨d29,.p (.ext t26 1),none⟩,
⟨d5,.p (.mv t28),none⟩,
⟨d6,.p (.mv t29),none⟩])
 (.seq (.ops [⟨d30,.p (.build [(.int .i64 (.ofNat 0)),(.int .i64 (.ofNat 0))] [(0, 1, k30),(1, 1, (.c (.int .i64 (.ofNat 800))))]),none⟩,
⟨d7,.a (.alloc 36 [(.int .i64 (.ofNat 0)),(.int .i64 (.ofNat 0))]),none⟩,
⟨none,.w (.st 2 t7 t30),none⟩])
 (.seq (.reg [⟨[0],⟨d32,.p (.mv t5),none⟩,0,0⟩,
⟨[1],⟨d33,.p (.nilck t32),none⟩,0,0⟩,
⟨[2],⟨d34,.p (.faddr 2 t33),none⟩,0,0⟩,
⟨[3],⟨d35,.r (.ldS t34),none⟩,0,0⟩,
⟨[4],⟨d36,.r (.ldA 2 t7),none⟩,0,0⟩,
⟨[5],⟨d37,.call p12 [t35,t36],none⟩,0,0⟩,
⟨[6],⟨d31,.p (.mv t37),none⟩,1,1⟩,
⟨[7],⟨d38,.p (.ext t31 0),none⟩,1,1⟩,
⟨[8],⟨d39,.p (.ext t31 1),none⟩,1,1⟩,
⟨[9],⟨d8,.p (.mv t38),none⟩,1,1⟩,
⟨[10],⟨d9,.p (.mv t39),none⟩,1,1⟩])
 (.seq (.ops [⟨d41,.p (.mv t5),none⟩,
⟨d42,.p (.nilck t41),none⟩,
⟨d43,.p (.faddr 2 t42),none⟩,
⟨d44,.r (.ldS t43),none⟩,
⟨d45,.p (.build [(.int .i64 (.ofNat 0)),(.int .i64 (.ofNat 0))] [(0, 1, k30),(1, 1, (.c (.int .i64 (.ofNat 810))))]),none⟩,
⟨d46,.call p12 [t44,t45],none⟩,
⟨d40,.p (.mv t46),none⟩,
⟨d47,.p (.ext t40 0),none⟩,
⟨d48,.p (.ext t40 1),none⟩,
⟨d10,.p (.mv t47),none⟩,
⟨d11,.p (.mv t48),none⟩])
 (.seq (.reg [⟨[0],⟨d50,.p (.mv t5),none⟩,0,0⟩,
⟨[1],⟨d51,.p (.nilck t50),none⟩,0,0⟩,
⟨[2],⟨d52,.p (.faddr 2 t51),none⟩,0,0⟩,
⟨[3],⟨d53,.r (.ldS t52),none⟩,0,0⟩,
⟨[4],⟨d54,.r (.ldA 2 t7),none⟩,0,0⟩,
⟨[5],⟨d55,.p (.mv t8),none⟩,0,0⟩,
⟨[6],⟨d56,.call p14 [t53,t54,t55],none⟩,0,0⟩,
⟨[7],⟨d49,.p (.mv t56),none⟩,1,1⟩,
⟨[8],⟨d57,.p (.ext t49 0),none⟩,1,1⟩,
⟨[9],⟨d58,.p (.ext t49 1),none⟩,1,1⟩,
⟨[10],⟨d59,.p (.ext t49 2),none⟩,1,1⟩,
⟨[11],⟨d12,.p (.mv t57),none⟩,1,1⟩,
⟨[12],⟨d13,.p (.mv t58),none⟩,1,1⟩,
⟨[13],⟨d14,.p (.mv t59),none⟩,1,1⟩])
 (.seq (.reg [⟨[0],⟨d61,.p (.mv t5),none⟩,0,0⟩,
⟨[1],⟨d62,.p (.nilck t61),none⟩,0,0⟩,
⟨[2],⟨d63,.p (.faddr 2 t62),none⟩,0,0⟩,
⟨[3],⟨d64,.r (.ldS t63),none⟩,0,0⟩,
⟨[4],⟨d65,.r (.ldA 2 t7),none⟩,0,0⟩,
⟨[5],⟨d66,.call p16 [t64,t65],none⟩,0,0⟩,
⟨[6],⟨d60,.p (.mv t66),none⟩,1,1⟩,
⟨[7],⟨d67,.p (.ext t60 0),none⟩,1,1⟩,
⟨[8],⟨d68,.p (.ext t60 1),none⟩,1,1⟩,
⟨[9],⟨d69,.p (.ext t60 2),none⟩,1,1⟩,
⟨[10],⟨d70,.p (.ext t60 3),none⟩,1,1⟩,
⟨[11],⟨d15,.p (.mv t67),none⟩,1,1⟩,
⟨[12],⟨d16,.p (.mv t68),none⟩,1,1⟩,
⟨[13],⟨d17,.p (.mv t69),none⟩,1,1⟩,
⟨[14],⟨d18,.p (.mv t70),none⟩,1,1⟩])
 (.seq (.seq (.ops [⟨d71,.p (.mv t9),none⟩,
⟨d72,.p (.bin .neq t71 k0),none⟩,
⟨d73,.p (.mv t72),none⟩,
⟨d74,.p (.mv t11),(some (p73, false))⟩,
⟨d75,.p (.bin .neq t74 k0),(some (p73, false))⟩,
⟨d76,.p (.pick t73 (.c (.bool true)) t75),none⟩,
⟨d77,.p (.mv t76),none⟩,
⟨d78,.p (.mv t14),(some (p77, false))⟩,
⟨d79,.p (.bin .neq t78 k10),(some (p77, false))⟩,
⟨d80,.p (.pick t77 (.c (.bool true)) t79),none⟩,
⟨d81,.p (.mv t80),none⟩,
⟨d82,.p (.mv t18),(some (p81, false))⟩,
⟨d83,.p (.bin .neq t82 k0),(some (p81, false))⟩,
⟨d84,.p (.pick t81 (.c (.bool true)) t83),none⟩,
⟨d85,.p (.mv t84),none⟩,
⟨d86,.p (.mv t8),(some (p85, false))⟩,
⟨d87,.p (.bin .neq t86 k2),(some (p85, false))⟩,
⟨d88,.p (.pick t85 (.c (.bool true)) t87),none⟩,
⟨d89,.p (.mv t88),none⟩,
⟨d90,.p (.mv t10),(some (p89, false))⟩,
⟨d91,.p (.bin .neq t90 k3),(some (p89, false))⟩,
⟨d92,.p (.pick t89 (.c (.bool true)) t91),none⟩])
 (.cond t92 (.seq (.ops [⟨d4,.p (.mv (.c (.bool false))),none⟩])
 .ret)
 .skip))
 (.seq (.ops [⟨d94,.p (.mv t5),none⟩,
⟨d95,.p (.nilck t94),none⟩,
⟨d96,.p (.faddr 0 t95),none⟩,
⟨d97,.r (.ldS t96),none⟩,
⟨d98,.p (.mv t15),none⟩,
⟨d99,.p (.build [(.int .i64 (.ofNat 0)),(.int .i64 (.ofNat 0))] [(0, 1, (.c (.int .i64 (.ofNat 700)))),(1, 1, t98)]),none⟩,
⟨d100,.p (.mv t16),none⟩,
⟨d101,.p (.mv t17),none⟩,
⟨d102,.p (.build [(.int .i64 (.ofNat 0)),(.int .i64 (.ofNat 0)),(.int .i64 (.ofNat 0)),(.int .i64 (.ofNat 0)),(.int .i64 (.ofNat 0)),(.int .i64 (.ofNat 0)),(.int .i64 (.ofNat 0)),(.int .i64 (.ofNat 0)),(.int .i64 (.ofNat 0)),.nils,(.int .i64 (.ofNat 0)),.nils,(.str []),(.int .i64 (.ofNat 0)),(.int .i64 (.ofNat 0)),(.int .i64 (.ofNat 0)),(.int .i64 (.ofNat 0)),(.int .i64 (.ofNat 0)),(.bool false),(.bool false)] [(0, 1, k22),(1, 2, t99),(5, 1, t100),(6, 1, t101)]),none⟩,
⟨d103,.call p17 [t97,k30,t102,k0],none⟩,
⟨d93,.p (.mv t103),none⟩,
⟨d104,.p (.ext t93 0),none⟩,
⟨d105,.p (.ext t93 1),none⟩,
⟨d19,.a (.alloc 52 [(.int .i64 (.ofNat 0)),(.str []),(.int .i64 (.ofNat 0)),.nils,(.int .i64 (.ofNat 0)),.nils,.nils,.nils]),none⟩,
⟨none,.w (.st 8 t19 t104),none⟩,
⟨d9,.p (.mv t105),none⟩])
 (.seq (.ops [⟨d107,.p (.mv t5),none⟩,
⟨d108,.p (.nilck t107),none⟩,
⟨d109,.p (.faddr 0 t108),none⟩,
⟨d110,.r (.ldS t109),none⟩,
⟨d111,.call p18 [t110,k30],none⟩,
⟨d106,.p (.mv t111),none⟩,
⟨d112,.p (.ext t106 0),none⟩,
⟨d113,.p (.ext t106 1),none⟩,
⟨d20,.a (.alloc 68 [(.int .i64 (.ofNat 0)),(.int .i64 (.ofNat 0)),(.int .i64 (.ofNat 0)),(.int .i64 (.ofNat 0)),(.int .i64 (.ofNat 0)),(.int .i64 (.ofNat 0)),.nils,.nils,(.str []),.nils,(.int .i64 (.ofNat 0)),.nils,(.int .i64 (.ofNat 0)),(.int .i64 (.ofNat 0)),(.int .u64 (.ofNat 0)),(.int .u64 (.ofNat 0)),(.int .u64 (.ofNat 0)),(.int .u64 (.ofNat 0)),(.int .u64 (.ofNat 0)),(.int .u64 (.ofNat 0)),(.int .u64 (.ofNat 0)),(.int .u64 (.ofNat 0)),(.int .u64 (.ofNat 0)),(.int .u64 (.ofNat 0)),(.int .u64 (.ofNat 0)),(.int .u64 (.ofNat 0)),(.int .u64 (.ofNat 0)),(.int .u64 (.ofNat 0)),(.int .u64 (.ofNat 0)),(.int .u64 (.ofNat 0)),(.int .u64 (.ofNat 0)),(.int .u64 (.ofNat 0)),(.int .i64 (.ofNat 0)),(.int .i64 (.ofNat 0)),(.int .i64 (.ofNat 0)),.nils,(.str []),(.str [])]),none⟩,
⟨none,.w (.st 38 t20 t112),none⟩,
⟨d21,.p (.mv t113),none⟩])
 (.seq (.seq (.ops [⟨d114,.p (.mv t9),none⟩,
⟨d115,.p (.bin .neq t114 k0),none⟩,
⟨d116,.p (.mv t115),none⟩,
⟨d117,.p (.faddr 0 t19),(some (p116, false))⟩,
⟨d118,.r (.ldS t117),(some (p116, false))⟩,
⟨d119,.p (.bin .neq t118 k0),(some (p116, false))⟩,
⟨d120,.p (.pick t116 (.c (.bool true)) t119),none⟩,
⟨d121,.p (.mv t120),none⟩,
⟨d122,.p (.faddr 32 t20),(some (p121, false))⟩,
⟨d123,.r (.ldS t122),(some (p121, false))⟩,
⟨d124,.p (.bin .neq t123 k1),(some (p121, false))⟩,
⟨d125,.p (.pick t121 (.c (.bool true)) t124),none⟩])
 (.cond t125 (.seq (.ops [⟨d4,.p (.mv (.c (.bool false))),none⟩])
 .ret)
 .skip))
 (.seq (.ops [⟨d126,.p (.mv t0),none⟩,
⟨d127,.p (.conv .u64 t126),none⟩,
⟨d128,.p (.bin .rem t127 (.c (.int .u64 (.ofNat 256)))),none⟩,
⟨d129,.p (.conv .i64 t128),none⟩,
⟨d0,.p (.mv t129),none⟩])
 (.seq (.seq (.ops [⟨d130,.p (.mv t1),none⟩])
 (.cond t130 (.seq (.ops [⟨d0,.p (.mv (.c (.int .i64 (.ofNat 137)))),none⟩])
 (.ops [⟨d131,.p (.mv t5),none⟩,
⟨d132,.p (.nilck t131),none⟩,
⟨d133,.p (.faddr 2 t132),none⟩,
⟨d134,.r (.ldS t133),none⟩,
⟨d135,.p (.build [(.int .i64 (.ofNat 0)),(.int .i64 (.ofNat 0))] [(0, 1, (.c (.int .i64 (.ofNat 811))))]),none⟩,
⟨d136,.p (.mv t8),none⟩,
⟨d137,.call p13 [t134,t135,t136,k9],none⟩,
⟨d9,.p (.mv t137),none⟩]))
 (.ops [⟨d138,.p (.mv t5),none⟩,
⟨d139,.p (.nilck t138),none⟩,
⟨d140,.p (.faddr 2 t139),none⟩,
⟨d141,.r (.ldS t140),none⟩,
⟨d142,.p (.build [(.int .i64 (.ofNat 0)),(.int .i64 (.ofNat 0))] [(0, 1, (.c (.int .i64 (.ofNat 801))))]),none⟩,
⟨d143,.p (.mv t0),none⟩,
⟨d144,.call p19 [t141,t142,t143],none⟩,
⟨d9,.p (.mv t144),none⟩])))
 (.seq (.ops [⟨d146,.p (.mv t5),none⟩,
⟨d147,.p (.nilck t146),none⟩,
⟨d148,.p (.faddr 0 t147),none⟩,
⟨d149,.r (.ldS t148),none⟩,
⟨d150,.call p18 [t149,k30],none⟩,
⟨d145,.p (.mv t150),none⟩,
⟨d151,.p (.ext t145 0),none⟩,
⟨d152,.p (.ext t145 1),none⟩,
⟨none,.w (.st 38 t20 t151),none⟩])
 (.seq (.reg [⟨[0],⟨d154,.p (.mv t5),none⟩,0,0⟩,
⟨[1],⟨d155,.p (.nilck t154),none⟩,0,0⟩,
⟨[2],⟨d156,.p (.faddr 2 t155),none⟩,0,0⟩,
⟨[3],⟨d157,.r (.ldS t156),none⟩,0,0⟩,
⟨[4],⟨d158,.r (.ldA 2 t7),none⟩,0,0⟩,
⟨[5],⟨d159,.p (.mv t8),none⟩,0,0⟩,
⟨[6],⟨d160,.call p14 [t157,t158,t159],none⟩,0,0⟩,
⟨[7],⟨d153,.p (.mv t160),none⟩,1,1⟩,
⟨[8],⟨d161,.p (.ext t153 0),none⟩,1,1⟩,
⟨[9],⟨d162,.p (.ext t153 1),none⟩,1,1⟩,
⟨[10],⟨d163,.p (.ext t153 2),none⟩,1,1⟩,
⟨[11],⟨d22,.p (.mv t161),none⟩,1,1⟩,
⟨[12],⟨d23,.p (.mv t162),none⟩,1,1⟩,
⟨[13],⟨d11,.p (.mv t163),none⟩,1,1⟩])
 (.seq (.ops [⟨d164,.p (.mv t9),none⟩,
⟨d165,.p (.bin .eql t164 k0),none⟩,
⟨d166,.p (.mv t165),none⟩,
⟨d167,.p (.faddr 32 t20),(some (p166, true))⟩,
⟨d168,.r (.ldS t167),(some (p166, true))⟩,
⟨d169,.p (.bin .eql t168 k0),(some (p166, true))⟩,
⟨d170,.p (.pick t166 t169 (.c (.bool false))),none⟩,
⟨d171,.p (.mv t170),none⟩,
⟨d172,.p (.mv t11),(some (p171, true))⟩,
⟨d173,.p (.bin .eql t172 k0),(some (p171, true))⟩,
⟨d174,.p (.pick t171 t173 (.c (.bool false))),none⟩,
⟨d175,.p (.mv t174),none⟩,
⟨d176,.p (.mv t22),(some (p175, true))⟩,
⟨d177,.p (.mv t8),(some (p175, true))⟩,
⟨d178,.p (.bin .eql t176 t177),(some (p175, true))⟩,
⟨d179,.p (.pick t175 t178 (.c (.bool false))),none⟩,
⟨d180,.p (.mv t179),none⟩,
⟨d181,.p (.mv t23),(some (p180, true))⟩,
⟨d182,.p (.mv t0),(some (p180, true))⟩,
⟨d183,.p (.bin .eql t181 t182),(some (p180, true))⟩,
⟨d184,.p (.pick t180 t183 (.c (.bool false))),none⟩,
⟨d4,.p (.mv t184),none⟩])
 .ret)))))))))))))))))⟩
theorem c5 : Go.Ev.EntOk Go.Proofs.Tryz.prog (5, f5) := ⟨Go.Proofs.Tryz.f5, Go.Proofs.Tryz.func5, by kernel_rfl, Go.Proofs.Tryz.call5⟩
def f10 : IFunc := ⟨0, [.t p0], (.seq (.ops [⟨d0,.p (.mv (.c (.bool false))),none⟩])
 (.seq (.ops [⟨d17,.call p11 [],none⟩,
⟨d16,.p (.mv t17),none⟩,
⟨d18,.p (.ext t16 0),none⟩,
⟨d19,.p (.ext t16 1),none⟩,
⟨d1,.p (.mv t18),none⟩,
⟨d2,.p (.mv t19),none⟩])
 (.seq (.seq (.ops [⟨d20,.p (.mv t1),none⟩,
⟨d21,.p (.eqp false t20 (.c .nilp)),none⟩])
 (.cond t21 (.seq (.ops [⟨d0,.p (.mv (.c (.bool false))),none⟩])
 .ret)
 .skip))
 (.seq (.ops [⟨d22,.p (.build [(.int .i64 (.ofNat 0)),(.int .i64 (.ofNat 0))] [(0, 1, k30),(1, 1, (.c (.int .i64 (.ofNat 800))))]),none⟩,
⟨d3,.a (.alloc 36 [(.int .i64 (.ofNat 0)),(.int .i64 (.ofNat 0))]),none⟩,
⟨none,.w (.st 2 t3 t22),none⟩])
 (.seq (.reg [⟨[0],⟨d24,.p (.mv t1),none⟩,0,0⟩,
⟨[1],⟨d25,.p (.nilck t24),none⟩,0,0⟩,
⟨[2],⟨d26,.p (.faddr 2 t25),none⟩,0,0⟩,
⟨[3],⟨d27,.r (.ldS t26),none⟩,0,0⟩,
⟨[4],⟨d28,.r (.ldA 2 t3),none⟩,0,0⟩,
⟨[5],⟨d29,.call p12 [t27,t28],none⟩,0,0⟩,
⟨[6],⟨d23,.p (.mv t29),none⟩,1,1⟩,
⟨[7],⟨d30,.p (.ext t23 0),none⟩,1,1⟩,
⟨[8],⟨d31,.p (.ext t23 1),none⟩,1,1⟩,
⟨[9],⟨d4,.p (.mv t30),none⟩,1,1⟩,
⟨[10],⟨d5,.p (.mv t31),none⟩,1,1⟩])
 (.seq (.reg [⟨[0],⟨d33,.p (.mv t1),none⟩,0,0⟩,
⟨[1],⟨d34,.p (.nilck t33),none⟩,0,0⟩,
⟨[2],⟨d35,.p (.faddr 2 t34),none⟩,0,0⟩,
⟨[3],⟨d36,.r (.ldS t35),none⟩,0,0⟩,
⟨[4],⟨d37,.r (.ldA 2 t3),none⟩,0,0⟩,
⟨[5],⟨d38,.call p14 [t36,t37,k0],none⟩,0,0⟩,
⟨[6],⟨d32,.p (.mv t38),none⟩,1,1⟩,
⟨[7],⟨d39,.p (.ext t32 0),none⟩,1,1⟩,
⟨[8],⟨d40,.p (.ext t32 1),none⟩,1,1⟩,
⟨[9],⟨d41,.p (.ext t32 2),none⟩,1,1⟩,
⟨[10],⟨d6,.p (.mv t39),none⟩,1,1⟩,
⟨[11],⟨d7,.p (.mv t40),none⟩,1,1⟩,
⟨[12],⟨d8,.p (.mv t41),none⟩,1,1⟩])
 (.seq (.ops [⟨d42,.p (.mv t1),none⟩,
⟨d43,.p (.nilck t42),none⟩,
⟨d44,.p (.faddr 2 t43),none⟩,
⟨d45,.r (.ldS t44),none⟩,
⟨d46,.p (.build [(.int .i64 (.ofNat 0)),(.int .i64 (.ofNat 0))] [(0, 1, (.c (.int .i64 (.ofNat 801))))]),none⟩,
⟨d47,.call p19 [t45,t46,k7],none⟩,
⟨d9,.p (.mv t47),none⟩])
 (.seq (.reg [⟨[0],⟨d49,.p (.mv t1),none⟩,0,0⟩,
⟨[1],⟨d50,.p (.nilck t49),none⟩,0,0⟩,
⟨[2],⟨d51,.p (.faddr 2 t50),none⟩,0,0⟩,
⟨[3],⟨d52,.r (.ldS t51),none⟩,0,0⟩,
⟨[4],⟨d53,.r (.ldA 2 t3),none⟩,0,0⟩,
⟨[5],⟨d54,.call p14 [t52,t53,k0],none⟩,0,0⟩,
⟨[6],⟨d48,.p (.mv t54),none⟩,1,1⟩,
⟨[7],⟨d55,.p (.ext t48 0),none⟩,1,1⟩,
⟨[8],⟨d56,.p (.ext t48 1),none⟩,1,1⟩,
⟨[9],⟨d57,.p (.ext t48 2),none⟩,1,1⟩,
⟨[10],⟨d10,.p (.mv t55),none⟩,1,1⟩,
⟨[11],⟨d11,.p (.mv t56),none⟩,1,1⟩,
⟨[12],⟨d12,.p (.mv t57),none⟩,1,1⟩])
 (.seq (.reg [⟨[0],⟨d59,.p (.mv t1),none⟩,0,0⟩,
⟨[1],⟨d60,.p (.nilck t59),none⟩,0,0⟩,
⟨[2],⟨d61,.p (.faddr 2 t60),none⟩,0,0⟩,
⟨[3],⟨d62,.r (.ldS t61),none⟩,0,0⟩,
⟨[4],⟨d63,.r (.ldA 2 t3),none⟩,0,0⟩,
⟨[5],⟨d64,.call p14 [t62,t63,k0],none⟩,0,0⟩,
⟨[6],⟨d58,.p (.mv t64),none⟩,1,1⟩,
⟨[7],⟨d65,.p (.ext t58 0),none⟩,1,1⟩,
⟨[8],⟨d66,.p (.ext t58 1),none⟩,1,1⟩,
⟨[9],⟨d67,.p (.ext t58 2),none⟩,1,1⟩,
⟨[10],⟨d13,.p (.mv t65),none⟩,1,1⟩,
⟨[11],⟨d14,.p (.mv t66),none⟩,1,1⟩,
⟨[12],⟨d15,.p (.mv t67),none⟩,1,1⟩])
 (.seq (.ops [⟨d68,.p (.mv t4),none⟩,
⟨d69,.p (.bin .eql t68 k2),none⟩,
⟨d70,.p (.mv t69),none⟩,
⟨d71,.p (.mv t5),(some (p70, true))⟩,
⟨d72,.p (.bin .eql t71 k0),(some (p70, true))⟩,
⟨d73,.p (.pick t70 t72 (.c (.bool false))),none⟩,
⟨d74,.p (.mv t73),none⟩,
⟨d75,.p (.mv t8),(some (p74, true))⟩,
⟨d76,.p (.bin .eql t75 k10),(some (p74, true))⟩,
⟨d77,.p (.pick t74 t76 (.c (.bool false))),none⟩,
⟨d78,.p (.mv t77),none⟩,
⟨d79,.p (.mv t9),(some (p78, true))⟩,
⟨d80,.p (.bin .eql t79 k0),(some (p78, true))⟩,
⟨d81,.p (.pick t78 t80 (.c (.bool false))),none⟩,
⟨d82,.p (.mv t81),none⟩,
⟨d83,.p (.mv t10),(some (p82, true))⟩,
⟨d84,.p (.bin .eql t83 k2),(some (p82, true))⟩,
⟨d85,.p (.pick t82 t84 (.c (.bool false))),none⟩,
⟨d86,.p (.mv t85),none⟩,
⟨d87,.p (.mv t11),(some (p86, true))⟩,
⟨d88,.p (.bin .eql t87 k7),(some (p86, true))⟩,
⟨d89,.p (.pick t86 t88 (.c (.bool false))),none⟩,
⟨d90,.p (.mv t89),none⟩,
⟨d91,.p (.mv t12),(some (p90, true))⟩,
⟨d92,.p (.bin .eql t91 k0),(some (p90, true))⟩,
⟨d93,.p (.pick t90 t92 (.c (.bool false))),none⟩,
⟨d94,.p (.mv t93),none⟩,
⟨d95,.p (.mv t15),(some (p94, true))⟩,
⟨d96,.p (.bin .eql t95 k30),(some (p94, true))⟩,
⟨d97,.p (.pick t94 t96 (.c (.bool false))),none⟩,
⟨d0,.p (.mv t97),none⟩])
 .ret))))))))))⟩
theorem c10 : Go.Ev.EntOk Go.Proofs.Tryz.prog (10, f10) := ⟨Go.Proofs.Tryz.f10, Go.Proofs.Tryz.func10, by kernel_rfl, Go.Proofs.Tryz.call10⟩
def f11 : IFunc := ⟨0, [.t p0,.t p1], (.seq (.ops [⟨d0,.p (.mv (.c .nilp)),none⟩,
⟨d1,.p (.mv (.c .nilp)),none⟩])
 (.seq (.ops [⟨d10,.call p33 [],none⟩,
⟨d9,.p (.mv t10),none⟩,
⟨d11,.p (.ext t9 0),none⟩,
⟨d12,.p (.ext t9 1),none⟩,
⟨d2,.p (.mv t11),none⟩,
⟨d3,.p (.mv t12),none⟩])
 (.seq (.seq (.ops [⟨d13,.p (.mv t3),none⟩,
⟨d14,.p (.eqp false t13 (.c .nilp)),none⟩])
 (.cond t14 (.seq (.ops [⟨d0,.p (.mv (.c .nilp)),none⟩,
⟨d1,.p (.mv (.c .nilp)),none⟩])
 .ret)
 .skip))
 (.seq (.ops [⟨d16,.p (.mv t3),none⟩,
⟨d17,.p (.mv t2),none⟩,
⟨d18,.p (.build [(.int .i64 (.ofNat 0)),(.int .i64 (.ofNat 0))] [(0, 1, k30),(1, 1, (.c (.int .i64 (.ofNat 700))))]),none⟩,
⟨d19,.call p30 [],none⟩,
⟨d20,.call p29 [t16,t17,t18,k1,t19,(.c (.int .i64 (.ofNat 262144)))],none⟩,
⟨d15,.p (.mv t20),none⟩,
⟨d21,.p (.ext t15 0),none⟩,
⟨d22,.p (.ext t15 1),none⟩,
⟨d4,.p (.mv t21),none⟩,
⟨d5,.p (.mv t22),none⟩])
 (.seq (.seq (.ops [⟨d23,.p (.mv t5),none⟩,
⟨d24,.p (.bin .neq t23 k0),none⟩])
 (.cond t24 (.seq (.ops [⟨d0,.p (.mv (.c .nilp)),none⟩,
⟨d1,.p (.mv (.c .nilp)),none⟩])
 .ret)
 .skip))
 (.seq (.ops [⟨d25,.call p34 [],none⟩,
⟨d6,.p (.mv t25),none⟩])
 (.seq (.reg [⟨[3],⟨d30,.call p30 [],none⟩,0,0⟩,
⟨[4],⟨d31,.call p30 [],none⟩,1,1⟩,
⟨[0],⟨d27,.p (.mv t6),none⟩,0,2⟩,
⟨[1],⟨d28,.p (.iaddrS 4 t27 k0),none⟩,0,2⟩,
⟨[2],⟨d29,.r (.ldA 4 t28),none⟩,0,2⟩,
⟨[5],⟨d32,.a (.bslice 3 1 8 [(.int .i64 (.ofNat 0)),(.int .i64 (.ofNat 0)),(.int .i64 (.ofNat 0)),(.int .i64 (.ofNat 0)),(.int .i64 (.ofNat 0)),(.int .i64 (.ofNat 0)),(.int .i64 (.ofNat 0)),(.int .i64 (.ofNat 0))] [(0, 1, k1),(1, 1, k2),(2, 1, k3),(3, 1, k20),(4, 1, k21),(5, 1, (.c (.int .i64 (.ofNat 700)))),(6, 1, (.c (.int .i64 (.ofNat 701)))),(7, 1, (.c (.int .i64 (.ofNat 702))))]),none⟩,0,2⟩,
⟨[6],⟨d33,.call p35 [t29,t30,t31,(.c (.int .i64 (.ofNat 1048576))),(.c (.int .i64 (.ofNat 500))),t32],none⟩,2,2⟩,
⟨[7],⟨d26,.p (.mv t33),none⟩,3,3⟩,
⟨[8],⟨d34,.p (.ext t26 0),none⟩,3,3⟩,
⟨[9],⟨d35,.p (.ext t26 1),none⟩,3,3⟩,
⟨[10],⟨d7,.p (.mv t34),none⟩,3,3⟩,
⟨[11],⟨d8,.p (.mv t35),none⟩,3,3⟩])
 (.seq (.reg [⟨[6],⟨d42,.call p30 [],none⟩,0,0⟩,
⟨[5],⟨d41,.p (.mv t7),none⟩,0,1⟩,
⟨[7],⟨d43,.call p37 [t41,t42],none⟩,1,1⟩,
⟨[8],⟨d44,.p (.mv t6),none⟩,0,2⟩,
⟨[9],⟨d45,.p (.iaddrS 4 t44 k1),none⟩,0,2⟩,
⟨[10],⟨d46,.r (.ldA 4 t45),none⟩,0,2⟩,
⟨[11],⟨d47,.call p36 [t43,t46,k30],none⟩,2,2⟩,
⟨[0],⟨d36,.p (.mv t2),none⟩,0,3⟩,
⟨[1],⟨d37,.p (.mv t3),none⟩,0,3⟩,
⟨[2],⟨d38,.p (.mv t4),none⟩,0,3⟩,
⟨[3],⟨d39,.p (.build [.nilp,.nilp,.nilp] [(0, 1, t36),(1, 1, t37),(2, 1, t38)]),none⟩,0,3⟩,
⟨[4],⟨d40,.a (.box 33 t39),none⟩,0,3⟩,
⟨[12],⟨d0,.p (.mv t40),none⟩,3,3⟩,
⟨[13],⟨d1,.p (.mv t47),none⟩,3,3⟩])
 .ret))))))))⟩
theorem c11 : Go.Ev.EntOk Go.Proofs.Tryz.prog (11, f11) := ⟨Go.Proofs.Tryz.f11, Go.Proofs.Tryz.func11, by kernel_rfl, Go.Proofs.Tryz.call11⟩
def f12 : IFunc := ⟨2, [.t p4,.t p5], (.seq (.ops [⟨d3,.a (.box 36 t1),none⟩,
⟨d4,.p (.mv k0),none⟩,
⟨d5,.p (.mv k0),none⟩])
 (.seq (.ops [⟨d19,.p (.mv t0),none⟩,
⟨d20,.r (.ldA 2 t3),none⟩,
⟨d21,.call p38 [t19,t20],none⟩,
⟨d18,.p (.mv t21),none⟩,
⟨d22,.p (.ext t18 0),none⟩,
⟨d23,.p (.ext t18 1),none⟩,
⟨d24,.p (.ext t18 2),none⟩,
⟨d7,.a (.alloc 77 [(.int .i64 (.ofNat 0)),(.int .i64 (.ofNat 0)),(.int .i64 (.ofNat 0)),(.int .i64 (.ofNat 0)),(.bool false),(.int .i64 (.ofNat 0))]),none⟩,
⟨d6,.p (.mv t22),none⟩,
⟨none,.w (.st 6 t7 t23),none⟩,
⟨d8,.p (.mv t24),none⟩])
 (.seq (.seq (.ops [⟨d25,.p (.mv t8),none⟩,
⟨d26,.p (.bin .neq t25 k0),none⟩])
 (.cond t26 (.seq (.ops [⟨d27,.p (.mv t8),none⟩,
⟨d4,.p (.mv k0),none⟩,
⟨d5,.p (.mv t27),none⟩])
 .ret)
 .skip))
 (.seq (.ops [⟨d9,.p (.mv k0),none⟩])
 (.seq (.block 0 (.loop (.seq (.seq (.ops [⟨d28,.p (.mv t9),none⟩,
⟨d29,.p (.bin .lss t28 k32),none⟩,
⟨d30,.p (.mv t29),none⟩,
⟨d31,.p (.mv t6),(some (p30, true))⟩,
⟨d32,.p (.mv t9),(some (p30, true))⟩,
⟨d33,.p (.nilck t31),(some (p30, true))⟩,
⟨d34,.p (.iaddrA 32 6 t33 t32),(some (p30, true))⟩,
⟨d35,.p (.faddr 1 t34),(some (p30, true))⟩,
⟨d36,.r (.ldS t35),(some (p30, true))⟩,
⟨d37,.p (.bin .neq t36 k0),(some (p30, true))⟩,
⟨d38,.p (.pick t30 t37 (.c (.bool false))),none⟩])
 (.cond t38 .skip
 (.exit 0)))
 (.block 1 (.ops [⟨d39,.p (.mv t9),none⟩,
⟨d40,.p (.bin .add t39 k1),none⟩,
⟨d9,.p (.mv t40),none⟩])))))
 (.seq (.seq (.ops [⟨d41,.p (.mv t9),none⟩,
⟨d42,.p (.bin .eql t41 k32),none⟩])
 (.cond t42 (.seq (.ops [⟨d4,.p (.mv k0),none⟩,
⟨d5,.p (.mv k10),none⟩])
 .ret)
 .skip))
 (.seq (.reg [⟨[0],⟨d44,.p (.mv t0),none⟩,0,0⟩,
⟨[1],⟨d45,.p (.nilck t44),none⟩,0,0⟩,
⟨[2],⟨d46,.p (.faddr 1 t45),none⟩,0,0⟩,
⟨[3],⟨d47,.r (.ldS t46),none⟩,0,0⟩,
⟨[4],⟨d48,.p (.faddr 3 t7),none⟩,0,0⟩,
⟨[5],⟨d49,.r (.ldS t48),none⟩,0,0⟩,
⟨[6],⟨d50,.call p39 [t47,t49],none⟩,0,0⟩,
⟨[7],⟨d51,.r (.ldA 2 t3),none⟩,0,1⟩,
⟨[8],⟨d52,.call p40 [t50,t51],none⟩,1,1⟩,
⟨[9],⟨d43,.p (.mv t52),none⟩,2,2⟩,
⟨[10],⟨d53,.p (.ext t43 0),none⟩,2,2⟩,
⟨[11],⟨d54,.p (.ext t43 1),none⟩,2,2⟩,
⟨[12],⟨d10,.p (.mv t53),none⟩,2,2⟩,
⟨[13],⟨d8,.p (.mv t54),none⟩,2,2⟩])
 (.seq (.seq (.ops [⟨d55,.p (.mv t8),none⟩,
⟨d56,.p (.bin .neq t55 k0),none⟩])
 (.cond t56 (.seq (.ops [⟨d57,.p (.mv t8),none⟩,
⟨d4,.p (.mv k0),none⟩,
⟨d5,.p (.mv t57),none⟩])
 .ret)
 .skip))
 (.seq (.reg [⟨[0],⟨d59,.p (.mv t0),none⟩,0,0⟩,
⟨[1],⟨d60,.p (.nilck t59),none⟩,0,0⟩,
⟨[2],⟨d61,.p (.faddr 0 t60),none⟩,0,0⟩,
⟨[3],⟨d62,.r (.ldS t61),none⟩,0,0⟩,
⟨[4],⟨d63,.p (.faddr 0 t3),none⟩,0,0⟩,
⟨[5],⟨d64,.r (.ldS t63),none⟩,0,0⟩,
⟨[6],⟨d65,.p (.build [(.int .i64 (.ofNat 0)),(.int .i64 (.ofNat 0)),(.int .i64 (.ofNat 0)),(.int .i64 (.ofNat 0)),(.int .i64 (.ofNat 0)),(.int .i64 (.ofNat 0)),(.int .i64 (.ofNat 0)),(.int .i64 (.ofNat 0)),(.int .i64 (.ofNat 0)),.nils,(.int .i64 (.ofNat 0)),.nils,(.str []),(.int .i64 (.ofNat 0)),(.int .i64 (.ofNat 0)),(.int .i64 (.ofNat 0)),(.int .i64 (.ofNat 0)),(.int .i64 (.ofNat 0)),(.bool false),(.bool false)] [(0, 1, k31)]),none⟩,0,0⟩,
⟨[7],⟨d66,.call p17 [t62,t64,t65,k0],none⟩,0,0⟩,
⟨[8],⟨d58,.p (.mv t66),none⟩,1,1⟩,
⟨[9],⟨d67,.p (.ext t58 0),none⟩,1,1⟩,
⟨[11],⟨d11,.a (.alloc 52 [(.int .i64 (.ofNat 0)),(.str []),(.int .i64 (.ofNat 0)),.nils,(.int .i64 (.ofNat 0)),.nils,.nils,.nils]),none⟩,0,1⟩,
⟨[12],⟨none,.w (.st 8 t11 t67),none⟩,1,1⟩,
⟨[10],⟨d68,.p (.ext t58 1),none⟩,1,2⟩,
⟨[13],⟨d12,.p (.mv t68),none⟩,2,2⟩])
 (.seq (.reg [⟨[0],⟨d70,.p (.mv t0),none⟩,0,0⟩,
⟨[1],⟨d71,.p (.nilck t70),none⟩,0,0⟩,
⟨[2],⟨d72,.p (.faddr 0 t71),none⟩,0,0⟩,
⟨[3],⟨d73,.r (.ldS t72),none⟩,0,0⟩,
⟨[4],⟨d74,.p (.faddr 0 t3),none⟩,0,0⟩,
⟨[5],⟨d75,.r (.ldS t74),none⟩,0,0⟩,
⟨[6],⟨d76,.call p18 [t73,t75],none⟩,0,0⟩,
⟨[7],⟨d69,.p (.mv t76),none⟩,1,1⟩,
⟨[8],⟨d77,.p (.ext t69 0),none⟩,1,1⟩,
⟨[10],⟨d13,.a (.alloc 68 [(.int .i64 (.ofNat 0)),(.int .i64 (.ofNat 0)),(.int .i64 (.ofNat 0)),(.int .i64 (.ofNat 0)),(.int .i64 (.ofNat 0)),(.int .i64 (.ofNat 0)),.nils,.nils,(.str []),.nils,(.int .i64 (.ofNat 0)),.nils,(.int .i64 (.ofNat 0)),(.int .i64 (.ofNat 0)),(.int .u64 (.ofNat 0)),(.int .u64 (.ofNat 0)),(.int .u64 (.ofNat 0)),(.int .u64 (.ofNat 0)),(.int .u64 (.ofNat 0)),(.int .u64 (.ofNat 0)),(.int .u64 (.ofNat 0)),(.int .u64 (.ofNat 0)),(.int .u64 (.ofNat 0)),(.int .u64 (.ofNat 0)),(.int .u64 (.ofNat 0)),(.int .u64 (.ofNat 0)),(.int .u64 (.ofNat 0)),(.int .u64 (.ofNat 0)),(.int .u64 (.ofNat 0)),(.int .u64 (.ofNat 0)),(.int .u64 (.ofNat 0)),(.int .u64 (.ofNat 0)),(.int .i64 (.ofNat 0)),(.int .i64 (.ofNat 0)),(.int .i64 (.ofNat 0)),.nils,(.str []),(.str [])]),none⟩,0,1⟩,
⟨[11],⟨none,.w (.st 38 t13 t77),none⟩,1,1⟩,
⟨[9],⟨d78,.p (.ext t69 1),none⟩,1,2⟩,
⟨[12],⟨d14,.p (.mv t78),none⟩,2,2⟩])
 (.seq (.reg [⟨[0],⟨d79,.p (.mv t0),none⟩,0,0⟩,
⟨[1],⟨d80,.call p41 [t79,k0],none⟩,0,0⟩,
⟨[2],⟨d81,.p (.faddr 12 t13),none⟩,0,1⟩,
⟨[3],⟨d82,.r (.ldA 2 t81),none⟩,0,1⟩,
⟨[4],⟨d83,.p (.faddr 2 t11),none⟩,0,1⟩,
⟨[5],⟨d84,.r (.ldA 2 t83),none⟩,0,1⟩,
⟨[6],⟨d85,.p (.faddr 4 t11),none⟩,0,1⟩,
⟨[7],⟨d86,.r (.ldA 2 t85),none⟩,0,1⟩,
⟨[8],⟨d87,.p (.faddr 14 t13),none⟩,0,1⟩,
⟨[9],⟨d88,.p (.faddr 16 t87),none⟩,0,1⟩,
⟨[10],⟨d89,.r (.ldS t88),none⟩,0,1⟩,
⟨[11],⟨d90,.p (.conv .i64 t89),none⟩,0,1⟩,
⟨[12],⟨d91,.p (.build [(.int .i64 (.ofNat 0)),(.int .i64 (.ofNat 0)),(.int .i64 (.ofNat 0)),(.int .i64 (.ofNat 0)),(.int .i64 (.ofNat 0)),(.int .i64 (.ofNat 0)),(.int .i64 (.ofNat 0)),(.int .i64 (.ofNat 0)),(.int .i64 (.ofNat 0)),.nils,(.int .i64 (.ofNat 0)),.nils,(.str []),(.int .i64 (.ofNat 0)),(.int .i64 (.ofNat 0)),(.int .i64 (.ofNat 0)),(.int .i64 (.ofNat 0)),(.int .i64 (.ofNat 0)),(.bool false),(.bool false)] [(0, 1, k7),(1, 2, t80),(3, 2, t82),(8, 2, t84),(10, 2, t86),(5, 1, k1),(6, 1, t90)]),none⟩,1,1⟩,
⟨[13],⟨d15,.a (.alloc 60 [(.int .i64 (.ofNat 0)),(.int .i64 (.ofNat 0)),(.int .i64 (.ofNat 0)),(.int .i64 (.ofNat 0)),(.int .i64 (.ofNat 0)),(.int .i64 (.ofNat 0)),(.int .i64 (.ofNat 0)),(.int .i64 (.ofNat 0)),(.int .i64 (.ofNat 0)),.nils,(.int .i64 (.ofNat 0)),.nils,(.str []),(.int .i64 (.ofNat 0)),(.int .i64 (.ofNat 0)),(.int .i64 (.ofNat 0)),(.int .i64 (.ofNat 0)),(.int .i64 (.ofNat 0)),(.bool false),(.bool false)]),none⟩,0,1⟩,
⟨[14],⟨none,.w (.st 20 t15 t91),none⟩,1,1⟩])
 (.seq (.seq (.reg [⟨[0],⟨d93,.p (.mv t0),none⟩,0,0⟩,
⟨[1],⟨d94,.p (.nilck t93),none⟩,0,0⟩,
⟨[2],⟨d95,.p (.faddr 0 t94),none⟩,0,0⟩,
⟨[3],⟨d96,.r (.ldS t95),none⟩,0,0⟩,
⟨[4],⟨d97,.p (.faddr 0 t3),none⟩,0,0⟩,
⟨[5],⟨d98,.r (.ldS t97),none⟩,0,0⟩,
⟨[6],⟨d99,.r (.ldA 20 t15),none⟩,0,0⟩,
⟨[7],⟨d100,.p (.faddr 1 t3),none⟩,0,0⟩,
⟨[8],⟨d101,.r (.ldS t100),none⟩,0,0⟩,
⟨[9],⟨d102,.p (.bin .add t101 k1),none⟩,0,0⟩,
⟨[10],⟨d103,.call p17 [t96,t98,t99,t102],none⟩,0,0⟩,
⟨[11],⟨d92,.p (.mv t103),none⟩,1,1⟩,
⟨[12],⟨d104,.p (.ext t92 0),none⟩,1,1⟩,
⟨[14],⟨d16,.a (.alloc 52 [(.int .i64 (.ofNat 0)),(.str []),(.int .i64 (.ofNat 0)),.nils,(.int .i64 (.ofNat 0)),.nils,.nils,.nils]),none⟩,0,1⟩,
⟨[15],⟨none,.w (.st 8 t16 t104),none⟩,1,1⟩,
⟨[13],⟨d105,.p (.ext t92 1),none⟩,1,2⟩,
⟨[16],⟨d17,.p (.mv t105),none⟩,2,2⟩])
 (.seq (.ops [⟨d106,.p (.mv t17),none⟩,
⟨d107,.p (.bin .neq t106 k0),none⟩])
 (.cond t107 (.seq (.ops [⟨d108,.p (.mv t10),none⟩,
⟨d109,.r (.ldA 2 t3),none⟩,
⟨d110,.call p42 [t108,t109],none⟩])
 (.seq (.ops [⟨d111,.p (.mv t17),none⟩,
⟨d112,.call p43 [t111],none⟩,
⟨d4,.p (.mv k0),none⟩,
⟨d5,.p (.mv t112),none⟩])
 .ret))
 .skip)))
 (.seq (.reg [⟨[9],⟨d122,.p (.mv t10),none⟩,0,0⟩,
⟨[10],⟨d123,.call p45 [t122],none⟩,0,0⟩,
⟨[0],⟨d113,.p (.mv t0),none⟩,0,1⟩,
⟨[1],⟨d114,.r (.ldA 2 t3),none⟩,0,1⟩,
⟨[2],⟨d115,.p (.mv t9),none⟩,0,1⟩,
⟨[3],⟨d116,.p (.bin .add t115 k1),none⟩,0,1⟩,
⟨[4],⟨d117,.p (.faddr 0 t7),none⟩,0,1⟩,
⟨[5],⟨d118,.r (.ldS t117),none⟩,0,1⟩,
⟨[6],⟨d119,.p (.faddr 1 t3),none⟩,0,1⟩,
⟨[7],⟨d120,.r (.ldS t119),none⟩,0,1⟩,
⟨[8],⟨d121,.p (.bin .add t120 k1),none⟩,0,1⟩,
⟨[11],⟨d124,.p (.build [(.int .i64 (.ofNat 0)),(.int .i64 (.ofNat 0)),(.int .i64 (.ofNat 0)),(.int .i64 (.ofNat 0)),(.bool false),(.int .i64 (.ofNat 0))] [(0, 1, t116),(1, 1, t118),(2, 1, t121),(3, 1, t123)]),none⟩,1,1⟩,
⟨[12],⟨d125,.call p44 [t113,t114,t124],none⟩,1,1⟩])
 (.seq (.ops [⟨d126,.p (.mv t9),none⟩,
⟨d127,.p (.bin .add t126 k1),none⟩,
⟨d4,.p (.mv t127),none⟩,
⟨d5,.p (.mv k0),none⟩])
 .ret))))))))))))))⟩
theorem c12 : Go.Ev.EntOk Go.Proofs.Tryz.prog (12, f12) := ⟨Go.Proofs.Tryz.f12, Go.Proofs.Tryz.func12, by kernel_rfl, Go.Proofs.Tryz.call12⟩
def f13 : IFunc := ⟨4, [.t p8], (.seq (.ops [⟨d5,.a (.box 36 t1),none⟩,
⟨d8,.p (.mv k0),none⟩])
 (.seq (.ops [⟨d15,.p (.mv t0),none⟩,
⟨d16,.r (.ldA 2 t5),none⟩,
⟨d17,.call p38 [t15,t16],none⟩,
⟨d14,.p (.mv t17),none⟩,
⟨d18,.p (.ext t14 0),none⟩,
⟨d19,.p (.ext t14 1),none⟩,
⟨d20,.p (.ext t14 2),none⟩,
⟨d10,.a (.alloc 77 [(.int .i64 (.ofNat 0)),(.int .i64 (.ofNat 0)),(.int .i64 (.ofNat 0)),(.int .i64 (.ofNat 0)),(.bool false),(.int .i64 (.ofNat 0))]),none⟩,
⟨d9,.p (.mv t18),none⟩,
⟨none,.w (.st 6 t10 t19),none⟩,
⟨d11,.p (.mv t20),none⟩])
 (.seq (.block 0 (.seq (.ops [⟨d22,.p (.mv t11),none⟩,
⟨d23,.p (.bin .neq t22 k0),none⟩,
⟨d21,.p (.mv t23),none⟩])
 (.cond t21 (.seq (.ops [⟨d24,.p (.mv t11),none⟩,
⟨d8,.p (.mv t24),none⟩])
 .ret)
 (.seq (.ops [⟨d26,.p (.mv t3),none⟩,
⟨d27,.p (.bin .lss t26 k0),none⟩,
⟨d28,.p (.mv t27),none⟩,
⟨d29,.p (.mv t3),(some (p28, false))⟩,
⟨d30,.p (.bin .gtr t29 k31),(some (p28, false))⟩,
⟨d31,.p (.pick t28 (.c (.bool true)) t30),none⟩,
⟨d25,.p (.mv t31),none⟩])
 (.cond t25 (.seq (.ops [⟨d8,.p (.mv k31),none⟩])
 .ret)
 (.seq (.ops [⟨d33,.p (.mv t2),none⟩,
⟨d34,.p (.bin .lss t33 k1),none⟩,
⟨d35,.p (.mv t34),none⟩,
⟨d36,.p (.mv t2),(some (p35, false))⟩,
⟨d37,.p (.bin .gtr t36 k32),(some (p35, false))⟩,
⟨d38,.p (.pick t35 (.c (.bool true)) t37),none⟩,
⟨d39,.p (.mv t38),none⟩,
⟨d40,.p (.mv t9),(some (p39, false))⟩,
⟨d41,.p (.mv t2),(some (p39, false))⟩,
⟨d42,.p (.bin .sub t41 k1),(some (p39, false))⟩,
⟨d43,.p (.nilck t40),(some (p39, false))⟩,
⟨d44,.p (.iaddrA 32 6 t43 t42),(some (p39, false))⟩,
⟨d45,.p (.faddr 1 t44),(some (p39, false))⟩,
⟨d46,.r (.ldS t45),(some (p39, false))⟩,
⟨d47,.p (.bin .eql t46 k0),(some (p39, false))⟩,
⟨d48,.p (.pick t39 (.c (.bool true)) t47),none⟩,
⟨d32,.p (.mv t48),none⟩])
 (.cond t32 (.seq (.ops [⟨d8,.p (.mv k36),none⟩])
 .ret)
 (.seq (.ops [⟨d50,.p (.mv t9),none⟩,
⟨d51,.p (.mv t2),none⟩,
⟨d52,.p (.bin .sub t51 k1),none⟩,
⟨d53,.p (.nilck t50),none⟩,
⟨d54,.p (.iaddrA 32 6 t53 t52),none⟩,
⟨d55,.p (.faddr 4 t54),none⟩,
⟨d56,.r (.ldS t55),none⟩,
⟨d57,.p (.mv t56),none⟩,
⟨d58,.p (.mv t3),(some (p57, false))⟩,
⟨d59,.p (.bin .eql t58 k0),(some (p57, false))⟩,
⟨d60,.p (.pick t57 (.c (.bool true)) t59),none⟩,
⟨d49,.p (.mv t60),none⟩])
 (.cond t49 (.seq (.ops [⟨d8,.p (.mv k0),none⟩])
 .ret)
 (.seq (.ops [⟨d62,.p (.mv t3),none⟩,
⟨d63,.p (.bin .eql t62 k9),none⟩,
⟨d64,.p (.mv t63),none⟩,
⟨d65,.p (.mv t2),(some (p64, true))⟩,
⟨d66,.p (.bin .eql t65 k1),(some (p64, true))⟩,
⟨d67,.p (.pick t64 t66 (.c (.bool false))),none⟩,
⟨d61,.p (.mv t67),none⟩])
 (.cond t61 (.seq (.ops [⟨d8,.p (.mv k26),none⟩])
 .ret)
 .skip)))))))))))
 (.seq (.ops [⟨d68,.p (.mv t9),none⟩,
⟨d69,.p (.mv t2),none⟩,
⟨d70,.p (.bin .sub t69 k1),none⟩,
⟨d71,.p (.nilck t68),none⟩,
⟨d72,.p (.iaddrA 32 6 t71 t70),none⟩,
⟨d73,.r (.ldA 6 t72),none⟩,
⟨d12,.a (.alloc 77 [(.int .i64 (.ofNat 0)),(.int .i64 (.ofNat 0)),(.int .i64 (.ofNat 0)),(.int .i64 (.ofNat 0)),(.bool false),(.int .i64 (.ofNat 0))]),none⟩,
⟨none,.w (.st 6 t12 t73),none⟩])
 (.seq (.seq (.ops [⟨d74,.p (.mv t3),none⟩,
⟨d75,.p (.bin .eql t74 k9),none⟩])
 (.cond t75 (.seq (.ops [⟨d76,.p (.faddr 2 t12),none⟩,
⟨d77,.r (.ldS t76),none⟩,
⟨d13,.p (.mv t77),none⟩])
 (.seq (.ops [⟨d78,.p (.faddr 2 t12),none⟩,
⟨none,.w (.st 1 t78 k0),none⟩])
 (.seq (.ops [⟨d79,.p (.mv t0),none⟩,
⟨d80,.r (.ldA 2 t5),none⟩,
⟨d81,.p (.mv t9),none⟩,
⟨d82,.r (.ldA 6 t12),none⟩,
⟨d83,.call p46 [t79,t80,t81,t82,(.c (.int .i64 (.ofNat 137)))],none⟩])
 (.seq (.ops [⟨d84,.p (.mv t0),none⟩,
⟨d85,.r (.ldA 2 t5),none⟩,
⟨d86,.p (.mv t13),none⟩,
⟨d87,.call p47 [t84,t85,t86],none⟩,
⟨d8,.p (.mv t87),none⟩])
 .ret))))
 .skip))
 (.seq (.reg [⟨[6],⟨d95,.p (.mv t0),none⟩,0,0⟩,
⟨[7],⟨d96,.p (.faddr 2 t12),none⟩,0,0⟩,
⟨[8],⟨d97,.r (.ldS t96),none⟩,0,0⟩,
⟨[9],⟨d98,.call p41 [t95,t97],none⟩,0,0⟩,
⟨[0],⟨d89,.p (.mv t0),none⟩,0,1⟩,
⟨[1],⟨d90,.p (.nilck t89),none⟩,0,1⟩,
⟨[2],⟨d91,.p (.faddr 0 t90),none⟩,0,1⟩,
⟨[3],⟨d92,.r (.ldS t91),none⟩,0,1⟩,
⟨[4],⟨d93,.p (.faddr 0 t5),none⟩,0,1⟩,
⟨[5],⟨d94,.r (.ldS t93),none⟩,0,1⟩,
⟨[10],⟨d99,.p (.mv t3),none⟩,0,1⟩,
⟨[11],⟨d100,.p (.build [(.int .i64 (.ofNat 0)),(.int .i64 (.ofNat 0)),(.int .i64 (.ofNat 0)),(.int .i64 (.ofNat 0)),(.int .i64 (.ofNat 0)),(.int .i64 (.ofNat 0)),(.int .i64 (.ofNat 0)),(.int .i64 (.ofNat 0)),(.int .i64 (.ofNat 0)),.nils,(.int .i64 (.ofNat 0)),.nils,(.str []),(.int .i64 (.ofNat 0)),(.int .i64 (.ofNat 0)),(.int .i64 (.ofNat 0)),(.int .i64 (.ofNat 0)),(.int .i64 (.ofNat 0)),(.bool false),(.bool false)] [(0, 1, k24),(1, 2, t98),(5, 1, t99)]),none⟩,1,1⟩,
⟨[12],⟨d101,.call p17 [t92,t94,t100,k0],none⟩,1,1⟩,
⟨[13],⟨d88,.p (.mv t101),none⟩,2,2⟩,
⟨[14],⟨d102,.p (.ext t88 0),none⟩,2,2⟩,
⟨[15],⟨d103,.p (.ext t88 1),none⟩,2,2⟩,
⟨[16],⟨d11,.p (.mv t103),none⟩,2,2⟩])
 (.seq (.seq (.ops [⟨d104,.p (.mv t11),none⟩,
⟨d105,.p (.bin .eql t104 k7),none⟩])
 (.cond t105 (.seq (.ops [⟨d8,.p (.mv k10),none⟩])
 .ret)
 .skip))
 (.seq (.ops [⟨d106,.p (.mv t11),none⟩,
⟨d107,.call p43 [t106],none⟩,
⟨d8,.p (.mv t107),none⟩])
 .ret))))))))⟩
theorem c13 : Go.Ev.EntOk Go.Proofs.Tryz.prog (13, f13) := ⟨Go.Proofs.Tryz.f13, Go.Proofs.Tryz.func13, by kernel_rfl, Go.Proofs.Tryz.call13⟩
def f14 : IFunc := ⟨3, [.t p6,.t p7,.t p8], (.seq (.ops [⟨d4,.a (.box 36 t1),none⟩,
⟨d6,.p (.mv k0),none⟩,
⟨d7,.p (.mv k0),none⟩,
⟨d8,.p (.mv k0),none⟩])
 (.seq (.ops [⟨d16,.p (.mv t0),none⟩,
⟨d17,.r (.ldA 2 t4),none⟩,
⟨d18,.call p38 [t16,t17],none⟩,
⟨d15,.p (.mv t18),none⟩,
⟨d19,.p (.ext t15 0),none⟩,
⟨d20,.p (.ext t15 1),none⟩,
⟨d21,.p (.ext t15 2),none⟩,
⟨d10,.a (.alloc 77 [(.int .i64 (.ofNat 0)),(.int .i64 (.ofNat 0)),(.int .i64 (.ofNat 0)),(.int .i64 (.ofNat 0)),(.bool false),(.int .i64 (.ofNat 0))]),none⟩,
⟨d9,.p (.mv t19),none⟩,
⟨none,.w (.st 6 t10 t20),none⟩,
⟨d11,.p (.mv t21),none⟩])
 (.seq (.seq (.ops [⟨d22,.p (.mv t11),none⟩,
⟨d23,.p (.bin .neq t22 k0),none⟩])
 (.cond t23 (.seq (.ops [⟨d24,.p (.mv t11),none⟩,
⟨d6,.p (.mv k0),none⟩,
⟨d7,.p (.mv k0),none⟩,
⟨d8,.p (.mv t24),none⟩])
 .ret)
 .skip))
 (.seq (.ops [⟨d12,.p (.mv (.c (.bool false))),none⟩])
 (.seq (.seq (.ops [⟨d25,.p (.mv t9),none⟩,
⟨d26,.p (.nilck t25),none⟩,
⟨d27,.p (.mv k0),none⟩])
 (.block 0 (.loop (.seq (.ops [⟨d28,.p (.bin .lss t27 k32),none⟩])
 (.seq (.cond t28 .skip
 (.exit 0))
 (.seq (.block 1 (.seq (.ops [⟨d29,.p (.nilck t25),none⟩,
⟨d30,.p (.iaddrA 32 6 t29 t27),none⟩,
⟨d31,.r (.ldA 6 t30),none⟩,
⟨d14,.a (.alloc 77 [(.int .i64 (.ofNat 0)),(.int .i64 (.ofNat 0)),(.int .i64 (.ofNat 0)),(.int .i64 (.ofNat 0)),(.bool false),(.int .i64 (.ofNat 0))]),none⟩,
⟨none,.w (.st 6 t14 t31),none⟩])
 (.seq (.seq (.ops [⟨d32,.p (.faddr 1 t14),none⟩,
⟨d33,.r (.ldS t32),none⟩,
⟨d34,.p (.faddr 0 t10),none⟩,
⟨d35,.r (.ldS t34),none⟩,
⟨d36,.p (.bin .neq t33 t35),none⟩,
⟨d37,.p (.mv t36),none⟩,
⟨d38,.p (.faddr 0 t14),(some (p37, false))⟩,
⟨d39,.r (.ldS t38),(some (p37, false))⟩,
⟨d40,.p (.bin .eql t39 k1),(some (p37, false))⟩,
⟨d41,.p (.pick t37 (.c (.bool true)) t40),none⟩,
⟨d42,.p (.mv t41),none⟩,
⟨d43,.p (.mv t2),(some (p42, false))⟩,
⟨d44,.p (.bin .neq t43 k0),(some (p42, false))⟩,
⟨d45,.p (.mv t44),(some (p42, false))⟩,
⟨d46,.p (.mv t2),(some (p45, true))⟩,
⟨d47,.p (.faddr 0 t14),(some (p45, true))⟩,
⟨d48,.r (.ldS t47),(some (p45, true))⟩,
⟨d49,.p (.bin .neq t46 t48),(some (p45, true))⟩,
⟨d50,.p (.pick t45 t49 (.c (.bool false))),(some (p42, false))⟩,
⟨d51,.p (.pick t42 (.c (.bool true)) t50),none⟩])
 (.cond t51 (.exit 1)
 .skip))
 (.seq (.ops [⟨d12,.p (.mv (.c (.bool true))),none⟩])
 (.seq (.ops [⟨d52,.p (.faddr 4 t14),none⟩,
⟨d53,.r (.ldS t52),none⟩])
 (.cond t53 (.seq (.seq (.ops [⟨d54,.p (.faddr 2 t14),none⟩,
⟨d55,.r (.ldS t54),none⟩,
⟨d56,.p (.bin .neq t55 k0),none⟩])
 (.cond t56 (.ops [⟨d57,.p (.mv t0),none⟩,
⟨d58,.r (.ldA 2 t4),none⟩,
⟨d59,.p (.faddr 2 t14),none⟩,
⟨d60,.r (.ldS t59),none⟩,
⟨d61,.call p47 [t57,t58,t60],none⟩])
 .skip))
 (.seq (.ops [⟨d62,.p (.mv t0),none⟩,
⟨d63,.r (.ldA 2 t4),none⟩,
⟨d64,.p (.faddr 0 t14),none⟩,
⟨d65,.r (.ldS t64),none⟩,
⟨d66,.p (.build [(.int .i64 (.ofNat 0)),(.int .i64 (.ofNat 0)),(.int .i64 (.ofNat 0)),(.int .i64 (.ofNat 0)),(.bool false),(.int .i64 (.ofNat 0))] [(0, 1, t65)]),none⟩,
⟨d67,.call p44 [t62,t63,t66],none⟩])
 (.seq (.reg [⟨[0],⟨d68,.p (.faddr 0 t14),none⟩,0,0⟩,
⟨[1],⟨d69,.r (.ldS t68),none⟩,0,0⟩,
⟨[2],⟨d70,.p (.faddr 5 t14),none⟩,0,0⟩,
⟨[3],⟨d71,.r (.ldS t70),none⟩,0,0⟩,
⟨[4],⟨d6,.p (.mv t69),none⟩,0,0⟩,
⟨[5],⟨d7,.p (.mv t71),none⟩,0,0⟩,
⟨[6],⟨d8,.p (.mv k0),none⟩,0,0⟩])
 .ret)))
 .skip))))))
 (.ops [⟨d72,.p (.bin .add t27 k1),none⟩,
⟨d27,.p (.mv t72),none⟩])))))))
 (.seq (.seq (.ops [⟨d73,.p (.mv t12),none⟩])
 (.cond t73 (.seq (.ops [⟨d6,.p (.mv k0),none⟩,
⟨d7,.p (.mv k0),none⟩,
⟨d8,.p (.mv k10),none⟩])
 .ret)
 .skip))
 (.seq (.ops [⟨d6,.p (.mv k0),none⟩,
⟨d7,.p (.mv k0),none⟩,
⟨d8,.p (.mv k30),none⟩])
 .ret)))))))⟩
theorem c14 : Go.Ev.EntOk Go.Proofs.Tryz.prog (14, f14) := ⟨Go.Proofs.Tryz.f14, Go.Proofs.Tryz.func14, by kernel_rfl, Go.Proofs.Tryz.call14⟩
def f16 : IFunc := ⟨2, [.t p4,.t p5,.t p6,.t p7], (.seq (.ops [⟨d3,.a (.box 36 t1),none⟩,
⟨d4,.p (.mv k0),none⟩,
⟨d5,.p (.mv k0),none⟩,
⟨d6,.p (.mv k0),none⟩,
⟨d7,.p (.mv k0),none⟩])
 (.seq (.ops [⟨d11,.p (.mv t0),none⟩,
⟨d12,.r (.ldA 2 t3),none⟩,
⟨d13,.call p38 [t11,t12],none⟩,
⟨d10,.p (.mv t13),none⟩,
⟨d14,.p (.ext t10 0),none⟩,
⟨d15,.p (.ext t10 1),none⟩,
⟨d16,.p (.ext t10 2),none⟩,
⟨d9,.a (.alloc 77 [(.int .i64 (.ofNat 0)),(.int .i64 (.ofNat 0)),(.int .i64 (.ofNat 0)),(.int .i64 (.ofNat 0)),(.bool false),(.int .i64 (.ofNat 0))]),none⟩,
⟨d8,.p (.mv t14),none⟩,
⟨none,.w (.st 6 t9 t15),none⟩,
⟨d7,.p (.mv t16),none⟩])
 (.seq (.seq (.ops [⟨d17,.p (.mv t7),none⟩,
⟨d18,.p (.bin .neq t17 k0),none⟩])
 (.cond t18 (.seq (.ops [⟨d19,.p (.mv t7),none⟩,
⟨d4,.p (.mv k0),none⟩,
⟨d5,.p (.mv k0),none⟩,
⟨d6,.p (.mv k0),none⟩,
⟨d7,.p (.mv t19),none⟩])
 .ret)
 .skip))
 (.seq (.reg [⟨[0],⟨d20,.p (.mv t0),none⟩,0,0⟩,
⟨[1],⟨d21,.p (.nilck t20),none⟩,0,0⟩,
⟨[2],⟨d22,.p (.faddr 2 t21),none⟩,0,0⟩,
⟨[3],⟨d23,.r (.ldS t22),none⟩,0,0⟩,
⟨[4],⟨d24,.p (.faddr 0 t9),none⟩,0,0⟩,
⟨[5],⟨d25,.r (.ldS t24),none⟩,0,0⟩,
⟨[6],⟨d26,.p (.bin .sub t25 k1),none⟩,0,0⟩,
⟨[7],⟨d27,.p (.bin .mul k40 t26),none⟩,0,0⟩,
⟨[8],⟨d28,.p (.faddr 2 t9),none⟩,0,0⟩,
⟨[9],⟨d29,.r (.ldS t28),none⟩,0,0⟩,
⟨[10],⟨d4,.p (.mv t23),none⟩,0,0⟩,
⟨[11],⟨d5,.p (.mv t27),none⟩,0,0⟩,
⟨[12],⟨d6,.p (.mv t29),none⟩,0,0⟩,
⟨[13],⟨d7,.p (.mv k0),none⟩,0,0⟩])
 .ret))))⟩
theorem c16 : Go.Ev.EntOk Go.Proofs.Tryz.prog (16, f16) := ⟨Go.Proofs.Tryz.f16, Go.Proofs.Tryz.func16, by kernel_rfl, Go.Proofs.Tryz.call16⟩
def f17 : IFunc := ⟨4, [.cA p8 8,.t p9], (.seq (.ops [⟨d6,.a (.box 60 t2),none⟩,
⟨d8,.a (.alloc 52 [(.int .i64 (.ofNat 0)),(.str []),(.int .i64 (.ofNat 0)),.nils,(.int .i64 (.ofNat 0)),.nils,.nils,.nils]),none⟩,
⟨d9,.p (.mv k0),none⟩])
 (.seq (.ops [⟨d13,.p (.mv t0),none⟩,
⟨d14,.p (.mv t1),none⟩,
⟨d15,.call p48 [t13,t14],none⟩,
⟨d12,.p (.mv t15),none⟩,
⟨d16,.p (.ext t12 0),none⟩,
⟨d17,.p (.ext t12 1),none⟩,
⟨d10,.p (.mv t16),none⟩,
⟨d11,.p (.mv t17),none⟩])
 (.seq (.seq (.ops [⟨d18,.p (.mv t11),none⟩,
⟨d19,.p (.bin .neq t18 k0),none⟩])
 (.cond t19 (.seq (.ops [⟨d20,.p (.build [(.int .i64 (.ofNat 0)),(.str []),(.int .i64 (.ofNat 0)),.nils,(.int .i64 (.ofNat 0)),.nils,.nils,.nils] []),none⟩,
⟨d21,.p (.mv t11),none⟩,
⟨none,.w (.st 8 t8 t20),none⟩,
⟨d9,.p (.mv t21),none⟩])
 .ret)
 .skip))
 (.seq (.ops [⟨d22,.p (.mv t10),none⟩,
⟨d23,.p (.mv t10),none⟩,
⟨d24,.r (.ldA 20 t6),none⟩,
⟨d25,.p (.mv t3),none⟩,
⟨d26,.p (.nilck t22),none⟩,
⟨d27,.p (.faddr 1 t26),none⟩,
⟨none,.w (.st 20 t27 t24),none⟩,
⟨d28,.p (.nilck t23),none⟩,
⟨d29,.p (.faddr 26 t28),none⟩,
⟨none,.w (.st 1 t29 t25),none⟩])
 (.seq (.seq (.ops [⟨d30,.p (.faddr 0 t6),none⟩,
⟨d31,.r (.ldS t30),none⟩])
 (.block 0 (.seq (.seq (.ops [⟨d33,.p (.bin .eql t31 k1),none⟩,
⟨d32,.p (.mv t33),none⟩])
 (.cond t32 .skip
 (.seq (.ops [⟨d34,.p (.bin .eql t31 k2),none⟩,
⟨d32,.p (.mv t34),none⟩])
 (.cond t32 .skip
 (.seq (.ops [⟨d35,.p (.bin .eql t31 k3),none⟩,
⟨d32,.p (.mv t35),none⟩])
 (.cond t32 .skip
 (.ops [⟨d36,.p (.bin .eql t31 k31),none⟩,
⟨d32,.p (.mv t36),none⟩])))))))
 (.cond t32 (.ops [⟨d37,.p (.mv t10),none⟩,
⟨d38,.call p49 [t37],none⟩,
⟨d11,.p (.mv t38),none⟩])
 (.seq (.seq (.ops [⟨d40,.p (.bin .eql t31 k4),none⟩,
⟨d39,.p (.mv t40),none⟩])
 (.cond t39 .skip
 (.seq (.ops [⟨d41,.p (.bin .eql t31 k5),none⟩,
⟨d39,.p (.mv t41),none⟩])
 (.cond t39 .skip
 (.seq (.ops [⟨d42,.p (.bin .eql t31 k6),none⟩,
⟨d39,.p (.mv t42),none⟩])
 (.cond t39 .skip
 (.seq (.ops [⟨d43,.p (.bin .eql t31 k7),none⟩,
⟨d39,.p (.mv t43),none⟩])
 (.cond t39 .skip
 (.seq (.ops [⟨d44,.p (.bin .eql t31 k8),none⟩,
⟨d39,.p (.mv t44),none⟩])
 (.cond t39 .skip
 (.ops [⟨d45,.p (.bin .eql t31 k18),none⟩,
⟨d39,.p (.mv t45),none⟩])))))))))))
 (.cond t39 (.ops [⟨d46,.p (.mv t10),none⟩,
⟨d47,.call p50 [t46],none⟩,
⟨d11,.p (.mv t47),none⟩])
 (.seq (.seq (.ops [⟨d49,.p (.bin .eql t31 k9),none⟩,
⟨d48,.p (.mv t49),none⟩])
 (.cond t48 .skip
 (.seq (.ops [⟨d50,.p (.bin .eql t31 k10),none⟩,
⟨d48,.p (.mv t50),none⟩])
 (.cond t48 .skip
 (.seq (.ops [⟨d51,.p (.bin .eql t31 k11),none⟩,
⟨d48,.p (.mv t51),none⟩])
 (.cond t48 .skip
 (.seq (.ops [⟨d52,.p (.bin .eql t31 k12),none⟩,
⟨d48,.p (.mv t52),none⟩])
 (.cond t48 .skip
 (.ops [⟨d53,.p (.bin .eql t31 k13),none⟩,
⟨d48,.p (.mv t53),none⟩])))))))))
 (.cond t48 (.ops [⟨d54,.p (.mv t10),none⟩,
⟨d55,.call p51 [t54],none⟩,
⟨d11,.p (.mv t55),none⟩])
 (.seq (.seq (.ops [⟨d57,.p (.bin .eql t31 k14),none⟩,
⟨d56,.p (.mv t57),none⟩])
 (.cond t56 .skip
 (.seq (.ops [⟨d58,.p (.bin .eql t31 k15),none⟩,
⟨d56,.p (.mv t58),none⟩])
 (.cond t56 .skip
 (.seq (.ops [⟨d59,.p (.bin .eql t31 k16),none⟩,
⟨d56,.p (.mv t59),none⟩])
 (.cond t56 .skip
 (.seq (.ops [⟨d60,.p (.bin .eql t31 k17),none⟩,
⟨d56,.p (.mv t60),none⟩])
 (.cond t56 .skip
 (.seq (.ops [⟨d61,.p (.bin .eql t31 k22),none⟩,
⟨d56,.p (.mv t61),none⟩])
 (.cond t56 .skip
 (.ops [⟨d62,.p (.bin .eql t31 k23),none⟩,
⟨d56,.p (.mv t62),none⟩])))))))))))
 (.cond t56 (.ops [⟨d63,.p (.mv t10),none⟩,
⟨d64,.call p52 [t63],none⟩,
⟨d11,.p (.mv t64),none⟩])
 (.seq (.seq (.ops [⟨d66,.p (.bin .eql t31 k19),none⟩,
⟨d65,.p (.mv t66),none⟩])
 (.cond t65 .skip
 (.seq (.ops [⟨d67,.p (.bin .eql t31 k20),none⟩,
⟨d65,.p (.mv t67),none⟩])
 (.cond t65 .skip
 (.seq (.ops [⟨d68,.p (.bin .eql t31 k21),none⟩,
⟨d65,.p (.mv t68),none⟩])
 (.cond t65 .skip
 (.ops [⟨d69,.p (.bin .eql t31 k32),none⟩,
⟨d65,.p (.mv t69),none⟩])))))))
 (.cond t65 (.ops [⟨d70,.p (.mv t10),none⟩,
⟨d71,.call p53 [t70],none⟩,
⟨d11,.p (.mv t71),none⟩])
 (.seq (.seq (.ops [⟨d73,.p (.bin .eql t31 k24),none⟩,
⟨d72,.p (.mv t73),none⟩])
 (.cond t72 .skip
 (.seq (.ops [⟨d74,.p (.bin .eql t31 k25),none⟩,
⟨d72,.p (.mv t74),none⟩])
 (.cond t72 .skip
 (.seq (.ops [⟨d75,.p (.bin .eql t31 k26),none⟩,
⟨d72,.p (.mv t75),none⟩])
 (.cond t72 .skip
 (.ops [⟨d76,.p (.bin .eql t31 k29),none⟩,
⟨d72,.p (.mv t76),none⟩])))))))
 (.cond t72 (.ops [⟨d77,.p (.mv t10),none⟩,
⟨d78,.call p54 [t77],none⟩,
⟨d11,.p (.mv t78),none⟩])
 (.seq (.seq (.ops [⟨d80,.p (.bin .eql t31 k27),none⟩,
⟨d79,.p (.mv t80),none⟩])
 (.cond t79 .skip
 (.ops [⟨d81,.p (.bin .eql t31 k28),none⟩,
⟨d79,.p (.mv t81),none⟩])))
 (.cond t79 (.ops [⟨d82,.p (.mv t10),none⟩,
⟨d83,.call p55 [t82],none⟩,
⟨d11,.p (.mv t83),none⟩])
 (.seq (.ops [⟨d85,.p (.bin .eql t31 k30),none⟩,
⟨d84,.p (.mv t85),none⟩])
 (.cond t84 (.ops [⟨d86,.p (.mv t10),none⟩,
⟨d87,.call p56 [t86],none⟩,
⟨d11,.p (.mv t87),none⟩])
 (.ops [⟨d11,.p (.mv k1),none⟩])))))))))))))))))))
 (.seq (.seq (.ops [⟨d88,.p (.mv t11),none⟩,
⟨d89,.p (.bin .neq t88 k0),none⟩])
 (.cond t89 (.seq (.ops [⟨d90,.p (.build [(.int .i64 (.ofNat 0)),(.str []),(.int .i64 (.ofNat 0)),.nils,(.int .i64 (.ofNat 0)),.nils,.nils,.nils] []),none⟩,
⟨d91,.p (.mv t11),none⟩,
⟨none,.w (.st 8 t8 t90),none⟩,
⟨d9,.p (.mv t91),none⟩])
 .ret)
 .skip))
 (.seq (.ops [⟨d92,.p (.mv t10),none⟩,
⟨d93,.p (.nilck t92),none⟩,
⟨d94,.p (.faddr 27 t93),none⟩,
⟨d95,.r (.ldA 8 t94),none⟩,
⟨none,.w (.st 8 t8 t95),none⟩,
⟨d9,.p (.mv k0),none⟩])
 .ret)))))))⟩
theorem c17 : Go.Ev.EntOk Go.Proofs.Tryz.prog (17, f17) := ⟨Go.Proofs.Tryz.f17, Go.Proofs.Tryz.func17, by kernel_rfl, Go.Proofs.Tryz.call17⟩
def f18 : IFunc := ⟨2, [.cA p4 38,.t p5], (.seq (.ops [⟨d4,.a (.alloc 68 [(.int .i64 (.ofNat 0)),(.int .i64 (.ofNat 0)),(.int .i64 (.ofNat 0)),(.int .i64 (.ofNat 0)),(.int .i64 (.ofNat 0)),(.int .i64 (.ofNat 0)),.nils,.nils,(.str []),.nils,(.int .i64 (.ofNat 0)),.nils,(.int .i64 (.ofNat 0)),(.int .i64 (.ofNat 0)),(.int .u64 (.ofNat 0)),(.int .u64 (.ofNat 0)),(.int .u64 (.ofNat 0)),(.int .u64 (.ofNat 0)),(.int .u64 (.ofNat 0)),(.int .u64 (.ofNat 0)),(.int .u64 (.ofNat 0)),(.int .u64 (.ofNat 0)),(.int .u64 (.ofNat 0)),(.int .u64 (.ofNat 0)),(.int .u64 (.ofNat 0)),(.int .u64 (.ofNat 0)),(.int .u64 (.ofNat 0)),(.int .u64 (.ofNat 0)),(.int .u64 (.ofNat 0)),(.int .u64 (.ofNat 0)),(.int .u64 (.ofNat 0)),(.int .u64 (.ofNat 0)),(.int .i64 (.ofNat 0)),(.int .i64 (.ofNat 0)),(.int .i64 (.ofNat 0)),.nils,(.str []),(.str [])]),none⟩,
⟨d5,.p (.mv (.c (.bool false))),none⟩])
 (.seq (.seq (.ops [⟨d10,.p (.mv t0),none⟩,
⟨d11,.p (.eqp false t10 (.c .nilp)),none⟩])
 (.cond t11 (.seq (.ops [⟨d12,.p (.build [(.int .i64 (.ofNat 0)),(.int .i64 (.ofNat 0)),(.int .i64 (.ofNat 0)),(.int .i64 (.ofNat 0)),(.int .i64 (.ofNat 0)),(.int .i64 (.ofNat 0)),.nils,.nils,(.str []),.nils,(.int .i64 (.ofNat 0)),.nils,(.int .i64 (.ofNat 0)),(.int .i64 (.ofNat 0)),(.int .u64 (.ofNat 0)),(.int .u64 (.ofNat 0)),(.int .u64 (.ofNat 0)),(.int .u64 (.ofNat 0)),(.int .u64 (.ofNat 0)),(.int .u64 (.ofNat 0)),(.int .u64 (.ofNat 0)),(.int .u64 (.ofNat 0)),(.int .u64 (.ofNat 0)),(.int .u64 (.ofNat 0)),(.int .u64 (.ofNat 0)),(.int .u64 (.ofNat 0)),(.int .u64 (.ofNat 0)),(.int .u64 (.ofNat 0)),(.int .u64 (.ofNat 0)),(.int .u64 (.ofNat 0)),(.int .u64 (.ofNat 0)),(.int .u64 (.ofNat 0)),(.int .i64 (.ofNat 0)),(.int .i64 (.ofNat 0)),(.int .i64 (.ofNat 0)),.nils,(.str []),(.str [])] []),none⟩,
⟨none,.w (.st 38 t4 t12),none⟩,
⟨d5,.p (.mv (.c (.bool false))),none⟩])
 .ret)
 .skip))
 (.seq (.ops [⟨d14,.p (.mv t0),none⟩,
⟨d15,.p (.nilck t14),none⟩,
⟨d16,.p (.faddr 0 t15),none⟩,
⟨d17,.r (.ldS t16),none⟩,
⟨d18,.p (.mv t1),none⟩,
⟨d19,.call p57 [t17,t18],none⟩,
⟨d13,.p (.mv t19),none⟩,
⟨d20,.p (.ext t13 0),none⟩,
⟨d21,.p (.ext t13 1),none⟩,
⟨d6,.a (.alloc 62 [(.int .i64 (.ofNat 0)),(.int .i64 (.ofNat 0)),(.int .i64 (.ofNat 0)),(.int .i64 (.ofNat 0)),(.int .i64 (.ofNat 0)),(.int .i64 (.ofNat 0)),.nils]),none⟩,
⟨none,.w (.st 7 t6 t20),none⟩,
⟨d7,.p (.mv t21),none⟩])
 (.seq (.seq (.ops [⟨d22,.p (.mv t7),none⟩,
⟨d23,.p (.not t22),none⟩])
 (.cond t23 (.seq (.ops [⟨d24,.p (.build [(.int .i64 (.ofNat 0)),(.int .i64 (.ofNat 0)),(.int .i64 (.ofNat 0)),(.int .i64 (.ofNat 0)),(.int .i64 (.ofNat 0)),(.int .i64 (.ofNat 0)),.nils,.nils,(.str []),.nils,(.int .i64 (.ofNat 0)),.nils,(.int .i64 (.ofNat 0)),(.int .i64 (.ofNat 0)),(.int .u64 (.ofNat 0)),(.int .u64 (.ofNat 0)),(.int .u64 (.ofNat 0)),(.int .u64 (.ofNat 0)),(.int .u64 (.ofNat 0)),(.int .u64 (.ofNat 0)),(.int .u64 (.ofNat 0)),(.int .u64 (.ofNat 0)),(.int .u64 (.ofNat 0)),(.int .u64 (.ofNat 0)),(.int .u64 (.ofNat 0)),(.int .u64 (.ofNat 0)),(.int .u64 (.ofNat 0)),(.int .u64 (.ofNat 0)),(.int .u64 (.ofNat 0)),(.int .u64 (.ofNat 0)),(.int .u64 (.ofNat 0)),(.int .u64 (.ofNat 0)),(.int .i64 (.ofNat 0)),(.int .i64 (.ofNat 0)),(.int .i64 (.ofNat 0)),.nils,(.str []),(.str [])] []),none⟩,
⟨none,.w (.st 38 t4 t24),none⟩,
⟨d5,.p (.mv (.c (.bool false))),none⟩])
 .ret)
 .skip))
 (.seq (.ops [⟨d25,.p (.mv t0),none⟩,
⟨d26,.p (.nilck t25),none⟩,
⟨d27,.p (.faddr 2 t26),none⟩,
⟨d28,.r (.ldS t27),none⟩,
⟨d29,.p (.mv t1),none⟩,
⟨d30,.r (.look .nilp t28 t29 false),none⟩,
⟨d8,.p (.mv t30),none⟩])
 (.seq (.reg [⟨[1],⟨d32,.p (.mv t8),none⟩,0,0⟩,
⟨[2],⟨d33,.p (.nilck t32),none⟩,0,0⟩,
⟨[3],⟨d34,.p (.faddr 1 t33),none⟩,0,0⟩,
⟨[4],⟨d35,.r (.ldS t34),none⟩,0,0⟩,
⟨[5],⟨d36,.call p58 [t35],none⟩,0,0⟩,
⟨[6],⟨d37,.p (.mv t8),none⟩,0,1⟩,
⟨[7],⟨d38,.p (.nilck t37),none⟩,0,1⟩,
⟨[8],⟨d39,.p (.faddr 2 t38),none⟩,0,1⟩,
⟨[9],⟨d40,.r (.ldA 2 t39),none⟩,0,1⟩,
⟨[10],⟨d41,.call p59 [t40],none⟩,1,1⟩,
⟨[27],⟨d58,.p (.mv t0),none⟩,0,2⟩,
⟨[28],⟨d59,.p (.nilck t58),none⟩,0,2⟩,
⟨[29],⟨d60,.p (.faddr 1 t59),none⟩,0,2⟩,
⟨[30],⟨d61,.r (.ldS t60),none⟩,0,2⟩,
⟨[31],⟨d62,.p (.mv t1),none⟩,0,2⟩,
⟨[32],⟨d63,.call p60 [t61,t62],none⟩,2,2⟩,
⟨[0],⟨d31,.r (.ldA 7 t6),none⟩,0,3⟩,
⟨[11],⟨d42,.p (.mv t8),none⟩,0,3⟩,
⟨[12],⟨d43,.p (.nilck t42),none⟩,0,3⟩,
⟨[13],⟨d44,.p (.faddr 4 t43),none⟩,0,3⟩,
⟨[14],⟨d45,.r (.ldA 2 t44),none⟩,0,3⟩,
⟨[15],⟨d46,.p (.mv t8),none⟩,0,3⟩,
⟨[16],⟨d47,.p (.nilck t46),none⟩,0,3⟩,
⟨[17],⟨d48,.p (.faddr 6 t47),none⟩,0,3⟩,
⟨[18],⟨d49,.r (.ldA 17 t48),none⟩,0,3⟩,
⟨[19],⟨d50,.p (.mv t8),none⟩,0,3⟩,
⟨[20],⟨d51,.p (.nilck t50),none⟩,0,3⟩,
⟨[21],⟨d52,.p (.faddr 23 t51),none⟩,0,3⟩,
⟨[22],⟨d53,.r (.ldS t52),none⟩,0,3⟩,
⟨[23],⟨d54,.p (.mv t8),none⟩,0,3⟩,
⟨[24],⟨d55,.p (.nilck t54),none⟩,0,3⟩,
⟨[25],⟨d56,.p (.faddr 24 t55),none⟩,0,3⟩,
⟨[26],⟨d57,.r (.ldS t56),none⟩,0,3⟩,
⟨[33],⟨d64,.p (.mv t8),none⟩,0,3⟩,
⟨[34],⟨d65,.p (.nilck t64),none⟩,0,3⟩,
⟨[35],⟨d66,.p (.faddr 25 t65),none⟩,0,3⟩,
⟨[36],⟨d67,.r (.ldS t66),none⟩,0,3⟩,
⟨[37],⟨d68,.p (.mv t8),none⟩,0,3⟩,
⟨[38],⟨d69,.p (.nilck t68),none⟩,0,3⟩,
⟨[39],⟨d70,.p (.faddr 26 t69),none⟩,0,3⟩,
⟨[40],⟨d71,.r (.ldS t70),none⟩,0,3⟩,
⟨[41],⟨d72,.p (.build [(.int .i64 (.ofNat 0)),(.int .i64 (.ofNat 0)),(.int .i64 (.ofNat 0)),(.int .i64 (.ofNat 0)),(.int .i64 (.ofNat 0)),(.int .i64 (.ofNat 0)),.nils,.nils,(.str []),.nils,(.int .i64 (.ofNat 0)),.nils,(.int .i64 (.ofNat 0)),(.int .i64 (.ofNat 0)),(.int .u64 (.ofNat 0)),(.int .u64 (.ofNat 0)),(.int .u64 (.ofNat 0)),(.int .u64 (.ofNat 0)),(.int .u64 (.ofNat 0)),(.int .u64 (.ofNat 0)),(.int .u64 (.ofNat 0)),(.int .u64 (.ofNat 0)),(.int .u64 (.ofNat 0)),(.int .u64 (.ofNat 0)),(.int .u64 (.ofNat 0)),(.int .u64 (.ofNat 0)),(.int .u64 (.ofNat 0)),(.int .u64 (.ofNat 0)),(.int .u64 (.ofNat 0)),(.int .u64 (.ofNat 0)),(.int .u64 (.ofNat 0)),(.int .u64 (.ofNat 0)),(.int .i64 (.ofNat 0)),(.int .i64 (.ofNat 0)),(.int .i64 (.ofNat 0)),.nils,(.str []),(.str [])] [(0, 7, t31),(9, 1, t36),(10, 2, t41),(12, 2, t45),(14, 17, t49),(31, 1, t53),(32, 1, t57),(35, 1, t63),(36, 1, t67),(37, 1, t71)]),none⟩,3,3⟩,
⟨[42],⟨d9,.a (.alloc 68 [(.int .i64 (.ofNat 0)),(.int .i64 (.ofNat 0)),(.int .i64 (.ofNat 0)),(.int .i64 (.ofNat 0)),(.int .i64 (.ofNat 0)),(.int .i64 (.ofNat 0)),.nils,.nils,(.str []),.nils,(.int .i64 (.ofNat 0)),.nils,(.int .i64 (.ofNat 0)),(.int .i64 (.ofNat 0)),(.int .u64 (.ofNat 0)),(.int .u64 (.ofNat 0)),(.int .u64 (.ofNat 0)),(.int .u64 (.ofNat 0)),(.int .u64 (.ofNat 0)),(.int .u64 (.ofNat 0)),(.int .u64 (.ofNat 0)),(.int .u64 (.ofNat 0)),(.int .u64 (.ofNat 0)),(.int .u64 (.ofNat 0)),(.int .u64 (.ofNat 0)),(.int .u64 (.ofNat 0)),(.int .u64 (.ofNat 0)),(.int .u64 (.ofNat 0)),(.int .u64 (.ofNat 0)),(.int .u64 (.ofNat 0)),(.int .u64 (.ofNat 0)),(.int .u64 (.ofNat 0)),(.int .i64 (.ofNat 0)),(.int .i64 (.ofNat 0)),(.int .i64 (.ofNat 0)),.nils,(.str []),(.str [])]),none⟩,0,3⟩,
⟨[43],⟨none,.w (.st 38 t9 t72),none⟩,3,3⟩])
 (.seq (.ops [⟨d74,.p (.mv t0),none⟩,
⟨d75,.p (.nilck t74),none⟩,
⟨d76,.p (.faddr 0 t75),none⟩,
⟨d77,.r (.ldS t76),none⟩,
⟨d78,.p (.mv t1),none⟩,
⟨d79,.call p61 [t77,t78],none⟩,
⟨d73,.p (.mv t79),none⟩,
⟨d80,.p (.ext t73 0),none⟩,
⟨d81,.p (.ext t73 1),none⟩,
⟨d82,.p (.faddr 7 t9),none⟩,
⟨none,.w (.st 1 t82 t80),none⟩])
 (.seq (.reg [⟨[4],⟨d88,.p (.mv t8),none⟩,0,0⟩,
⟨[5],⟨d89,.p (.nilck t88),none⟩,0,0⟩,
⟨[6],⟨d90,.p (.faddr 0 t89),none⟩,0,0⟩,
⟨[7],⟨d91,.r (.ldS t90),none⟩,0,0⟩,
⟨[8],⟨d92,.call p63 [t91],none⟩,0,0⟩,
⟨[0],⟨d84,.p (.mv t8),none⟩,0,1⟩,
⟨[1],⟨d85,.p (.nilck t84),none⟩,0,1⟩,
⟨[2],⟨d86,.p (.faddr 0 t85),none⟩,0,1⟩,
⟨[3],⟨d87,.r (.ldS t86),none⟩,0,1⟩,
⟨[9],⟨d93,.call p62 [t87,k0,t92],none⟩,1,1⟩,
⟨[10],⟨d83,.p (.mv t93),none⟩,2,2⟩,
⟨[11],⟨d94,.p (.ext t83 0),none⟩,2,2⟩,
⟨[13],⟨d96,.p (.faddr 8 t9),none⟩,2,2⟩,
⟨[14],⟨none,.w (.st 1 t96 t94),none⟩,2,2⟩,
⟨[12],⟨d95,.p (.ext t83 1),none⟩,2,3⟩])
 (.seq (.ops [⟨d98,.p (.mv t0),none⟩,
⟨d99,.p (.nilck t98),none⟩,
⟨d100,.p (.faddr 1 t99),none⟩,
⟨d101,.r (.ldS t100),none⟩,
⟨d102,.p (.mv t1),none⟩,
⟨d103,.call p64 [t101,t102],none⟩,
⟨d97,.p (.mv t103),none⟩,
⟨d104,.p (.ext t97 0),none⟩,
⟨d105,.p (.ext t97 1),none⟩,
⟨d106,.p (.ext t97 2),none⟩,
⟨d107,.p (.faddr 33 t9),none⟩,
⟨none,.w (.st 1 t107 t104),none⟩,
⟨d108,.p (.faddr 34 t9),none⟩,
⟨none,.w (.st 1 t108 t105),none⟩])
 (.seq (.ops [⟨d109,.r (.ldA 38 t9),none⟩,
⟨none,.w (.st 38 t4 t109),none⟩,
⟨d5,.p (.mv (.c (.bool true))),none⟩])
 .ret))))))))))⟩
theorem c18 : Go.Ev.EntOk Go.Proofs.Tryz.prog (18, f18) := ⟨Go.Proofs.Tryz.f18, Go.Proofs.Tryz.func18, by kernel_rfl, Go.Proofs.Tryz.call18⟩
def f19 : IFunc := ⟨3, [.t p6], (.seq (.ops [⟨d4,.a (.box 36 t1),none⟩,
⟨d6,.p (.mv k0),none⟩])
 (.seq (.ops [⟨d11,.p (.mv t0),none⟩,
⟨d12,.r (.ldA 2 t4),none⟩,
⟨d13,.call p38 [t11,t12],none⟩,
⟨d10,.p (.mv t13),none⟩,
⟨d14,.p (.ext t10 0),none⟩,
⟨d15,.p (.ext t10 1),none⟩,
⟨d16,.p (.ext t10 2),none⟩,
⟨d8,.a (.alloc 77 [(.int .i64 (.ofNat 0)),(.int .i64 (.ofNat 0)),(.int .i64 (.ofNat 0)),(.int .i64 (.ofNat 0)),(.bool false),(.int .i64 (.ofNat 0))]),none⟩,
⟨d7,.p (.mv t14),none⟩,
⟨none,.w (.st 6 t8 t15),none⟩,
⟨d9,.p (.mv t16),none⟩])
 (.seq (.block 0 (.seq (.ops [⟨d18,.p (.mv t9),none⟩,
⟨d19,.p (.bin .neq t18 k0),none⟩,
⟨d17,.p (.mv t19),none⟩])
 (.cond t17 (.seq (.ops [⟨d20,.p (.mv t9),none⟩,
⟨d6,.p (.mv t20),none⟩])
 .ret)
 (.seq (.ops [⟨d22,.p (.mv t2),none⟩,
⟨d23,.p (.bin .lss t22 k0),none⟩,
⟨d24,.p (.mv t23),none⟩,
⟨d25,.p (.mv t2),(some (p24, false))⟩,
⟨d26,.p (.bin .gtr t25 (.c (.int .i64 (.ofNat 255)))),(some (p24, false))⟩,
⟨d27,.p (.pick t24 (.c (.bool true)) t26),none⟩,
⟨d28,.p (.mv t27),none⟩,
⟨d29,.p (.faddr 0 t8),(some (p28, false))⟩,
⟨d30,.r (.ldS t29),(some (p28, false))⟩,
⟨d31,.p (.bin .eql t30 k1),(some (p28, false))⟩,
⟨d32,.p (.pick t28 (.c (.bool true)) t31),none⟩,
⟨d21,.p (.mv t32),none⟩])
 (.cond t21 (.seq (.ops [⟨d6,.p (.mv k31),none⟩])
 .ret)
 .skip)))))
 (.seq (.ops [⟨d33,.p (.mv t0),none⟩,
⟨d34,.r (.ldA 2 t4),none⟩,
⟨d35,.p (.mv t7),none⟩,
⟨d36,.r (.ldA 6 t8),none⟩,
⟨d37,.p (.mv t2),none⟩,
⟨d38,.call p46 [t33,t34,t35,t36,t37],none⟩])
 (.seq (.reg [⟨[0],⟨d39,.p (.mv t0),none⟩,0,0⟩,
⟨[1],⟨d40,.p (.nilck t39),none⟩,0,0⟩,
⟨[2],⟨d41,.p (.faddr 0 t40),none⟩,0,0⟩,
⟨[3],⟨d42,.r (.ldS t41),none⟩,0,0⟩,
⟨[4],⟨d43,.p (.faddr 0 t4),none⟩,0,0⟩,
⟨[5],⟨d44,.r (.ldS t43),none⟩,0,0⟩,
⟨[6],⟨d45,.p (.build [(.int .i64 (.ofNat 0)),(.int .i64 (.ofNat 0)),(.int .i64 (.ofNat 0)),(.int .i64 (.ofNat 0)),(.int .i64 (.ofNat 0)),(.int .i64 (.ofNat 0)),(.int .i64 (.ofNat 0)),(.int .i64 (.ofNat 0)),(.int .i64 (.ofNat 0)),.nils,(.int .i64 (.ofNat 0)),.nils,(.str []),(.int .i64 (.ofNat 0)),(.int .i64 (.ofNat 0)),(.int .i64 (.ofNat 0)),(.int .i64 (.ofNat 0)),(.int .i64 (.ofNat 0)),(.bool false),(.bool false)] [(0, 1, k26)]),none⟩,0,0⟩,
⟨[7],⟨d46,.call p17 [t42,t44,t45,k0],none⟩,0,0⟩])
 (.seq (.ops [⟨d6,.p (.mv k0),none⟩])
 .ret))))))⟩
theorem c19 : Go.Ev.EntOk Go.Proofs.Tryz.prog (19, f19) := ⟨Go.Proofs.Tryz.f19, Go.Proofs.Tryz.func19, by kernel_rfl, Go.Proofs.Tryz.call19⟩
def f27 : IFunc := ⟨2, [.t p4], (.seq (.ops [⟨d4,.p (.mv (.c (.bool false))),none⟩])
 (.seq (.seq (.ops [⟨d7,.p (.mv t0),none⟩,
⟨d8,.p (.lenSl t7),none⟩,
⟨d9,.p (.mv k0),none⟩])
 (.block 0 (.loop (.seq (.ops [⟨d10,.p (.bin .lss t9 t8),none⟩])
 (.seq (.cond t10 .skip
 (.exit 0))
 (.seq (.block 1 (.seq (.ops [⟨d11,.p (.iaddrS 1 t7 t9),none⟩,
⟨d12,.r (.ldS t11),none⟩,
⟨d6,.p (.mv t12),none⟩])
 (.seq (.ops [⟨d13,.p (.mv t6),none⟩,
⟨d14,.p (.mv t1),none⟩,
⟨d15,.p (.bin .eql t13 t14),none⟩])
 (.cond t15 (.seq (.ops [⟨d4,.p (.mv (.c (.bool true))),none⟩])
 .ret)
 .skip))))
 (.ops [⟨d16,.p (.bin .add t9 k1),none⟩,
⟨d9,.p (.mv t16),none⟩])))))))
 (.seq (.ops [⟨d4,.p (.mv (.c (.bool false))),none⟩])
 .ret)))⟩
theorem c27 : Go.Ev.EntOk Go.Proofs.Tryz.prog (27, f27) := ⟨Go.Proofs.Tryz.f27, Go.Proofs.Tryz.func27, by kernel_rfl, Go.Proofs.Tryz.call27⟩
def f28 : IFunc := ⟨2, [.t p4,.t p5], (.seq (.ops [⟨d3,.a (.box 36 t1),none⟩,
⟨d4,.p (.mv (.c .nils)),none⟩,
⟨d5,.p (.mv k0),none⟩])
 (.seq (.ops [⟨d12,.p (.mv t0),none⟩,
⟨d13,.r (.ldA 2 t3),none⟩,
⟨d14,.call p65 [t12,t13],none⟩,
⟨d11,.p (.mv t14),none⟩,
⟨d15,.p (.ext t11 0),none⟩,
⟨d16,.p (.ext t11 1),none⟩,
⟨d6,.p (.mv t15),none⟩,
⟨d7,.p (.mv t16),none⟩])
 (.seq (.ops [⟨d8,.p (.mv (.c .nils)),none⟩])
 (.seq (.seq (.ops [⟨d17,.p (.mv t6),none⟩,
⟨d18,.p (.lenSl t17),none⟩,
⟨d19,.p (.mv k0),none⟩])
 (.block 0 (.loop (.seq (.ops [⟨d20,.p (.bin .lss t19 t18),none⟩])
 (.seq (.cond t20 .skip
 (.exit 0))
 (.seq (.block 1 (.seq (.ops [⟨d21,.p (.mv t19),none⟩,
⟨d22,.p (.iaddrS 1 t17 t19),none⟩,
⟨d23,.r (.ldS t22),none⟩,
⟨d9,.p (.mv t21),none⟩,
⟨d10,.p (.mv t23),none⟩])
 (.seq (.ops [⟨d24,.p (.mv t10),none⟩,
⟨d25,.p (.bin .neq t24 k0),none⟩])
 (.cond t25 (.ops [⟨d26,.p (.mv t8),none⟩,
⟨d27,.p (.mv t9),none⟩,
⟨d28,.a (.bslice 3 1 1 [(.int .i64 (.ofNat 0))] [(0, 1, t27)]),none⟩,
⟨d29,.w (.app 3 1 8 t26 t28),none⟩,
⟨d8,.p (.mv t29),none⟩])
 .skip))))
 (.ops [⟨d30,.p (.bin .add t19 k1),none⟩,
⟨d19,.p (.mv t30),none⟩])))))))
 (.seq (.ops [⟨d31,.p (.mv t8),none⟩,
⟨d32,.p (.mv t7),none⟩,
⟨d4,.p (.mv t31),none⟩,
⟨d5,.p (.mv t32),none⟩])
 .ret)))))⟩
theorem c28 : Go.Ev.EntOk Go.Proofs.Tryz.prog (28, f28) := ⟨Go.Proofs.Tryz.f28, Go.Proofs.Tryz.func28, by kernel_rfl, Go.Proofs.Tryz.call28⟩
def f29 : IFunc := ⟨6, [.t p12,.t p13], (.seq (.ops [⟨d8,.a (.box 36 t2),none⟩,
⟨d10,.a (.box 49 t4),none⟩,
⟨d12,.p (.mv (.c .nilp)),none⟩,
⟨d13,.p (.mv k0),none⟩])
 (.seq (.ops [⟨d21,.p (.mv t0),none⟩,
⟨d22,.p (.mv t1),none⟩,
⟨d23,.r (.ldA 2 t8),none⟩,
⟨d24,.p (.mv t3),none⟩,
⟨d25,.r (.ldA 2 t10),none⟩,
⟨d26,.p (.mv t5),none⟩,
⟨d27,.call p76 [t21,t22,t23,t24,t25,t26],none⟩,
⟨d20,.p (.mv t27),none⟩,
⟨d28,.p (.ext t20 0),none⟩,
⟨d29,.p (.ext t20 1),none⟩,
⟨d14,.p (.mv t28),none⟩,
⟨d15,.p (.mv t29),none⟩])
 (.seq (.seq (.ops [⟨d30,.p (.mv t15),none⟩,
⟨d31,.p (.bin .neq t30 k0),none⟩])
 (.cond t31 (.seq (.ops [⟨d32,.p (.mv t15),none⟩,
⟨d12,.p (.mv (.c .nilp)),none⟩,
⟨d13,.p (.mv t32),none⟩])
 .ret)
 .skip))
 (.seq (.ops [⟨d33,.p (.mv t1),none⟩,
⟨d34,.p (.mv t14),none⟩,
⟨d35,.p (.faddr 1 t8),none⟩,
⟨d36,.r (.ldS t35),none⟩,
⟨d37,.p (.bin .add t36 k2),none⟩,
⟨d38,.p (.build [.nilp,.nilp,(.int .i64 (.ofNat 0))] [(0, 1, t33),(1, 1, t34),(2, 1, t37)]),none⟩,
⟨d39,.a (.box 121 t38),none⟩,
⟨d16,.p (.mv t39),none⟩])
 (.seq (.ops [⟨d17,.p (.mv (.c (.int .i64 (.ofNat 1280)))),none⟩])
 (.seq (.seq (.reg [⟨[0],⟨d41,.p (.mv t1),none⟩,0,0⟩,
⟨[1],⟨d42,.p (.faddr 0 t8),none⟩,0,0⟩,
⟨[2],⟨d43,.r (.ldS t42),none⟩,0,0⟩,
⟨[3],⟨d44,.p (.faddr 1 t8),none⟩,0,0⟩,
⟨[4],⟨d45,.r (.ldS t44),none⟩,0,0⟩,
⟨[5],⟨d46,.p (.build [(.int .i64 (.ofNat 0)),(.int .i64 (.ofNat 0))] [(0, 1, t45)]),none⟩,0,0⟩,
⟨[6],⟨d47,.r (.ldA 2 t10),none⟩,0,0⟩,
⟨[7],⟨d48,.p (.mv t17),none⟩,0,0⟩,
⟨[8],⟨d49,.p (.mv t17),none⟩,0,0⟩,
⟨[9],⟨d50,.p (.build [(.int .i64 (.ofNat 0)),(.int .i64 (.ofNat 0)),(.int .i64 (.ofNat 0)),(.int .i64 (.ofNat 0)),(.int .i64 (.ofNat 0)),(.int .i64 (.ofNat 0)),(.int .i64 (.ofNat 0)),(.int .i64 (.ofNat 0)),(.int .i64 (.ofNat 0)),.nils,(.int .i64 (.ofNat 0)),.nils,(.str []),(.int .i64 (.ofNat 0)),(.int .i64 (.ofNat 0)),(.int .i64 (.ofNat 0)),(.int .i64 (.ofNat 0)),(.int .i64 (.ofNat 0)),(.bool false),(.bool false)] [(0, 1, k5),(1, 2, t46),(8, 2, t47),(5, 1, t48),(6, 1, t49)]),none⟩,0,0⟩,
⟨[10],⟨d51,.p (.mv t16),none⟩,0,0⟩,
⟨[11],⟨d52,.p (.nilck t51),none⟩,0,0⟩,
⟨[12],⟨d53,.p (.faddr 2 t52),none⟩,0,0⟩,
⟨[13],⟨d54,.r (.ldS t53),none⟩,0,0⟩,
⟨[14],⟨d55,.call p17 [t41,t43,t50,t54],none⟩,0,0⟩,
⟨[15],⟨d40,.p (.mv t55),none⟩,1,1⟩,
⟨[16],⟨d56,.p (.ext t40 0),none⟩,1,1⟩,
⟨[18],⟨d18,.a (.alloc 52 [(.int .i64 (.ofNat 0)),(.str []),(.int .i64 (.ofNat 0)),.nils,(.int .i64 (.ofNat 0)),.nils,.nils,.nils]),none⟩,0,1⟩,
⟨[19],⟨none,.w (.st 8 t18 t56),none⟩,1,1⟩,
⟨[17],⟨d57,.p (.ext t40 1),none⟩,1,2⟩,
⟨[20],⟨d19,.p (.mv t57),none⟩,2,2⟩])
 (.seq (.ops [⟨d58,.p (.mv t19),none⟩,
⟨d59,.p (.bin .neq t58 k0),none⟩])
 (.cond t59 (.seq (.ops [⟨d60,.p (.mv t1),none⟩,
⟨d61,.p (.faddr 0 t8),none⟩,
⟨d62,.r (.ldS t61),none⟩,
⟨d63,.p (.mv t3),none⟩,
⟨d64,.p (.faddr 1 t8),none⟩,
⟨d65,.r (.ldS t64),none⟩,
⟨d66,.p (.build [(.int .i64 (.ofNat 0)),(.int .i64 (.ofNat 0))] [(0, 1, t63),(1, 1, t65)]),none⟩,
⟨d67,.p (.build [(.int .i64 (.ofNat 0)),(.int .i64 (.ofNat 0)),(.int .i64 (.ofNat 0)),(.int .i64 (.ofNat 0)),(.int .i64 (.ofNat 0)),(.int .i64 (.ofNat 0)),(.int .i64 (.ofNat 0)),(.int .i64 (.ofNat 0)),(.int .i64 (.ofNat 0)),.nils,(.int .i64 (.ofNat 0)),.nils,(.str []),(.int .i64 (.ofNat 0)),(.int .i64 (.ofNat 0)),(.int .i64 (.ofNat 0)),(.int .i64 (.ofNat 0)),(.int .i64 (.ofNat 0)),(.bool false),(.bool false)] [(0, 1, k10),(1, 2, t66)]),none⟩,
⟨d68,.call p17 [t60,t62,t67,k0],none⟩])
 (.seq (.ops [⟨d69,.p (.mv t19),none⟩,
⟨d70,.call p43 [t69],none⟩,
⟨d12,.p (.mv (.c .nilp)),none⟩,
⟨d13,.p (.mv t70),none⟩])
 .ret))
 .skip)))
 (.seq (.reg [⟨[4],⟨d75,.p (.mv t14),none⟩,0,0⟩,
⟨[5],⟨d76,.call p45 [t75],none⟩,0,0⟩,
⟨[0],⟨d71,.p (.mv t16),none⟩,0,1⟩,
⟨[1],⟨d72,.r (.ldA 2 t8),none⟩,0,1⟩,
⟨[2],⟨d73,.p (.faddr 0 t8),none⟩,0,1⟩,
⟨[3],⟨d74,.r (.ldS t73),none⟩,0,1⟩,
⟨[6],⟨d77,.p (.build [(.int .i64 (.ofNat 0)),(.int .i64 (.ofNat 0)),(.int .i64 (.ofNat 0)),(.int .i64 (.ofNat 0)),(.bool false),(.int .i64 (.ofNat 0))] [(0, 1, k1),(1, 1, k1),(2, 1, t74),(3, 1, t76)]),none⟩,1,1⟩,
⟨[7],⟨d78,.call p44 [t71,t72,t77],none⟩,1,1⟩])
 (.seq (.ops [⟨d79,.p (.mv t16),none⟩,
⟨d12,.p (.mv t79),none⟩,
⟨d13,.p (.mv k0),none⟩])
 .ret))))))))⟩
theorem c29 : Go.Ev.EntOk Go.Proofs.Tryz.prog (29, f29) := ⟨Go.Proofs.Tryz.f29, Go.Proofs.Tryz.func29, by kernel_rfl, Go.Proofs.Tryz.call29⟩
def f30 : IFunc := ⟨0, [.cA p0 2], (.seq (.ops [⟨d0,.a (.alloc 49 [(.int .i64 (.ofNat 0)),.nils]),none⟩])
 (.seq (.ops [⟨d1,.p (.build [(.int .i64 (.ofNat 0)),.nils] [(0, 1, k2)]),none⟩,
⟨none,.w (.st 2 t0 t1),none⟩])
 .ret))⟩
theorem c30 : Go.Ev.EntOk Go.Proofs.Tryz.prog (30, f30) := ⟨Go.Proofs.Tryz.f30, Go.Proofs.Tryz.func30, by kernel_rfl, Go.Proofs.Tryz.call30⟩
def f33 : IFunc := ⟨0, [.t p0,.t p1], (.seq (.ops [⟨d0,.p (.mv (.c .nilp)),none⟩,
⟨d1,.p (.mv (.c .nilp)),none⟩])
 (.seq (.ops [⟨d9,.call p79 [],none⟩,
⟨d10,.call p78 [t9],none⟩,
⟨d8,.p (.mv t10),none⟩,
⟨d11,.p (.ext t8 0),none⟩,
⟨d12,.p (.ext t8 1),none⟩,
⟨d2,.p (.mv t11),none⟩,
⟨d3,.p (.mv t12),none⟩])
 (.seq (.seq (.ops [⟨d13,.p (.mv t3),none⟩,
⟨d14,.p (.bin .neq t13 k0),none⟩])
 (.cond t14 (.seq (.ops [⟨d0,.p (.mv (.c .nilp)),none⟩,
⟨d1,.p (.mv (.c .nilp)),none⟩])
 .ret)
 .skip))
 (.seq (.ops [⟨d15,.p (.build [(.int .i64 (.ofNat 0)),(.int .i64 (.ofNat 0))] [(0, 1, k1)]),none⟩,
⟨d4,.a (.alloc 56 [(.int .i64 (.ofNat 0)),(.int .i64 (.ofNat 0))]),none⟩,
⟨none,.w (.st 2 t4 t15),none⟩])
 (.seq (.ops [⟨d16,.p (.mv t2),none⟩,
⟨d17,.p (.build [(.int .i64 (.ofNat 0)),(.int .i64 (.ofNat 0)),(.int .i64 (.ofNat 0)),(.int .i64 (.ofNat 0)),(.int .i64 (.ofNat 0)),(.int .i64 (.ofNat 0)),(.int .i64 (.ofNat 0)),(.int .i64 (.ofNat 0)),(.int .i64 (.ofNat 0)),.nils,(.int .i64 (.ofNat 0)),.nils,(.str []),(.int .i64 (.ofNat 0)),(.int .i64 (.ofNat 0)),(.int .i64 (.ofNat 0)),(.int .i64 (.ofNat 0)),(.int .i64 (.ofNat 0)),(.bool false),(.bool false)] [(0, 1, k1)]),none⟩,
⟨d18,.call p17 [t16,k3,t17,k20],none⟩])
 (.seq (.ops [⟨d19,.p (.mv t2),none⟩,
⟨d20,.p (.build [(.int .i64 (.ofNat 0)),(.int .i64 (.ofNat 0)),(.int .i64 (.ofNat 0)),(.int .i64 (.ofNat 0)),(.int .i64 (.ofNat 0)),(.int .i64 (.ofNat 0)),(.int .i64 (.ofNat 0)),(.int .i64 (.ofNat 0)),(.int .i64 (.ofNat 0)),.nils,(.int .i64 (.ofNat 0)),.nils,(.str []),(.int .i64 (.ofNat 0)),(.int .i64 (.ofNat 0)),(.int .i64 (.ofNat 0)),(.int .i64 (.ofNat 0)),(.int .i64 (.ofNat 0)),(.bool false),(.bool false)] [(0, 1, k1)]),none⟩,
⟨d21,.call p17 [t19,k3,t20,k21],none⟩])
 (.seq (.ops [⟨d23,.p (.mv t2),none⟩,
⟨d24,.p (.build [(.int .i64 (.ofNat 0)),(.int .i64 (.ofNat 0))] [(0, 1, k3),(1, 1, (.c (.int .i64 (.ofNat 500))))]),none⟩,
⟨d25,.call p81 [],none⟩,
⟨d26,.call p80 [t23,t24,k1,t25,(.c (.int .i64 (.ofNat 1048576)))],none⟩,
⟨d22,.p (.mv t26),none⟩,
⟨d27,.p (.ext t22 0),none⟩,
⟨d28,.p (.ext t22 1),none⟩,
⟨d5,.p (.mv t27),none⟩,
⟨d3,.p (.mv t28),none⟩])
 (.seq (.seq (.ops [⟨d29,.p (.mv t3),none⟩,
⟨d30,.p (.bin .neq t29 k0),none⟩])
 (.cond t30 (.seq (.ops [⟨d0,.p (.mv (.c .nilp)),none⟩,
⟨d1,.p (.mv (.c .nilp)),none⟩])
 .ret)
 .skip))
 (.seq (.seq (.ops [⟨d31,.call p34 [],none⟩,
⟨d32,.p (.slSl 4 t31 (some k1) none none),none⟩,
⟨d33,.p (.lenSl t32),none⟩,
⟨d34,.p (.mv k0),none⟩])
 (.block 0 (.loop (.seq (.ops [⟨d35,.p (.bin .lss t34 t33),none⟩])
 (.seq (.cond t35 .skip
 (.exit 0))
 (.seq (.block 1 (.seq (.ops [⟨d36,.p (.mv t34),none⟩,
⟨d37,.p (.iaddrS 4 t32 t34),none⟩,
⟨d38,.r (.ldA 4 t37),none⟩,
⟨d7,.a (.alloc 113 [(.int .i64 (.ofNat 0)),.nils,(.int .i64 (.ofNat 0)),.nils]),none⟩,
⟨d6,.p (.mv t36),none⟩,
⟨none,.w (.st 4 t7 t38),none⟩])
 (.ops [⟨d39,.p (.mv t2),none⟩,
⟨d40,.r (.ldA 2 t4),none⟩,
⟨d41,.p (.faddr 0 t7),none⟩,
⟨d42,.r (.ldA 2 t41),none⟩,
⟨d43,.p (.faddr 2 t7),none⟩,
⟨d44,.r (.ldA 2 t43),none⟩,
⟨d45,.p (.build [(.int .i64 (.ofNat 0)),(.int .i64 (.ofNat 0)),(.int .i64 (.ofNat 0)),(.int .i64 (.ofNat 0)),(.int .i64 (.ofNat 0)),(.int .i64 (.ofNat 0)),(.int .i64 (.ofNat 0)),(.int .i64 (.ofNat 0)),(.int .i64 (.ofNat 0)),.nils,(.int .i64 (.ofNat 0)),.nils,(.str []),(.int .i64 (.ofNat 0)),(.int .i64 (.ofNat 0)),(.int .i64 (.ofNat 0)),(.int .i64 (.ofNat 0)),(.int .i64 (.ofNat 0)),(.bool false),(.bool false)] [(0, 1, k7),(1, 2, t40),(8, 2, t42),(10, 2, t44),(5, 1, k1)]),none⟩,
⟨d46,.p (.mv t6),none⟩,
⟨d47,.p (.bin .add k30 t46),none⟩,
⟨d48,.call p17 [t39,k3,t45,t47],none⟩])))
 (.ops [⟨d49,.p (.bin .add t34 k1),none⟩,
⟨d34,.p (.mv t49),none⟩])))))))
 (.seq (.ops [⟨d50,.p (.mv t2),none⟩,
⟨d51,.p (.mv t5),none⟩,
⟨d0,.p (.mv t50),none⟩,
⟨d1,.p (.mv t51),none⟩])
 .ret))))))))))⟩
theorem c33 : Go.Ev.EntOk Go.Proofs.Tryz.prog (33, f33) := ⟨Go.Proofs.Tryz.f33, Go.Proofs.Tryz.func33, by kernel_rfl, Go.Proofs.Tryz.call33⟩
def f34 : IFunc := ⟨0, [.t p0], (.seq (.ops [⟨d0,.p (.mv (.c .nils)),none⟩])
 (.seq (.ops [⟨d3,.p (.build [(.int .i64 (.ofNat 0)),.nils] [(0, 1, k4)]),none⟩,
⟨d1,.a (.alloc 49 [(.int .i64 (.ofNat 0)),.nils]),none⟩,
⟨none,.w (.st 2 t1 t3),none⟩])
 (.seq (.ops [⟨d4,.p (.build [(.int .i64 (.ofNat 0)),(.int .i64 (.ofNat 0))] [(0, 1, k20),(1, 1, k0)]),none⟩,
⟨d5,.p (.build [(.int .i64 (.ofNat 0)),(.int .i64 (.ofNat 0))] [(0, 1, k21),(1, 1, k0)]),none⟩,
⟨d6,.a (.bslice 178 2 2 [(.int .i64 (.ofNat 0)),(.int .i64 (.ofNat 0)),(.int .i64 (.ofNat 0)),(.int .i64 (.ofNat 0))] [(0, 2, t4),(2, 2, t5)]),none⟩,
⟨d7,.p (.build [(.int .i64 (.ofNat 0)),.nils] [(0, 1, k2),(1, 1, t6)]),none⟩,
⟨d2,.a (.alloc 49 [(.int .i64 (.ofNat 0)),.nils]),none⟩,
⟨none,.w (.st 2 t2 t7),none⟩])
 (.seq (.reg [⟨[3],⟨d11,.call p81 [],none⟩,0,0⟩,
⟨[6],⟨d14,.call p82 [k20,k0],none⟩,1,1⟩,
⟨[9],⟨d17,.call p82 [k20,k4],none⟩,2,2⟩,
⟨[12],⟨d20,.call p82 [k21,k0],none⟩,3,3⟩,
⟨[0],⟨d8,.r (.ldA 2 t2),none⟩,0,4⟩,
⟨[1],⟨d9,.r (.ldA 2 t1),none⟩,0,4⟩,
⟨[2],⟨d10,.p (.build [(.int .i64 (.ofNat 0)),.nils,(.int .i64 (.ofNat 0)),.nils] [(0, 2, t8),(2, 2, t9)]),none⟩,0,4⟩,
⟨[4],⟨d12,.p (.build [(.int .i64 (.ofNat 0)),.nils] [(0, 1, k3)]),none⟩,0,4⟩,
⟨[5],⟨d13,.p (.build [(.int .i64 (.ofNat 0)),.nils,(.int .i64 (.ofNat 0)),.nils] [(0, 2, t11),(2, 2, t12)]),none⟩,1,4⟩,
⟨[7],⟨d15,.r (.ldA 2 t1),none⟩,0,4⟩,
⟨[8],⟨d16,.p (.build [(.int .i64 (.ofNat 0)),.nils,(.int .i64 (.ofNat 0)),.nils] [(0, 2, t14),(2, 2, t15)]),none⟩,2,4⟩,
⟨[10],⟨d18,.r (.ldA 2 t1),none⟩,0,4⟩,
⟨[11],⟨d19,.p (.build [(.int .i64 (.ofNat 0)),.nils,(.int .i64 (.ofNat 0)),.nils] [(0, 2, t17),(2, 2, t18)]),none⟩,3,4⟩,
⟨[13],⟨d21,.r (.ldA 2 t1),none⟩,0,4⟩,
⟨[14],⟨d22,.p (.build [(.int .i64 (.ofNat 0)),.nils,(.int .i64 (.ofNat 0)),.nils] [(0, 2, t20),(2, 2, t21)]),none⟩,4,4⟩,
⟨[15],⟨d23,.a (.bslice 113 4 5 [(.int .i64 (.ofNat 0)),.nils,(.int .i64 (.ofNat 0)),.nils,(.int .i64 (.ofNat 0)),.nils,(.int .i64 (.ofNat 0)),.nils,(.int .i64 (.ofNat 0)),.nils,(.int .i64 (.ofNat 0)),.nils,(.int .i64 (.ofNat 0)),.nils,(.int .i64 (.ofNat 0)),.nils,(.int .i64 (.ofNat 0)),.nils,(.int .i64 (.ofNat 0)),.nils] [(0, 4, t10),(4, 4, t13),(8, 4, t16),(12, 4, t19),(16, 4, t22)]),none⟩,4,4⟩,
⟨[16],⟨d0,.p (.mv t23),none⟩,4,4⟩])
 .ret))))⟩
theorem c34 : Go.Ev.EntOk Go.Proofs.Tryz.prog (34, f34) := ⟨Go.Proofs.Tryz.f34, Go.Proofs.Tryz.func34, by kernel_rfl, Go.Proofs.Tryz.call34⟩
def f35 : IFunc := ⟨6, [.t p12,.t p13], (.seq (.ops [⟨d6,.a (.box 113 t0),none⟩,
⟨d7,.a (.box 49 t1),none⟩,
⟨d8,.a (.box 49 t2),none⟩,
⟨d12,.p (.mv (.c .nilp)),none⟩,
⟨d13,.p (.mv k0),none⟩])
 (.seq (.ops [⟨d16,.a (.bslice 3 1 0 [] []),none⟩,
⟨d17,.p (.mv t5),none⟩,
⟨d18,.w (.app 3 1 8 t16 t17),none⟩,
⟨d19,.p (.build [.nils,.nils] [(1, 1, t18)]),none⟩,
⟨d20,.a (.box 182 t19),none⟩,
⟨d14,.p (.mv t20),none⟩])
 (.seq (.seq (.ops [⟨d21,.p (.mv t14),none⟩,
⟨d22,.r (.ldA 4 t6),none⟩,
⟨d23,.r (.ldA 2 t7),none⟩,
⟨d24,.r (.ldA 2 t8),none⟩,
⟨d25,.p (.mv t3),none⟩,
⟨d26,.p (.mv t4),none⟩,
⟨d27,.call p83 [t21,t22,t23,t24,t25,t26],none⟩,
⟨d15,.p (.mv t27),none⟩])
 (.seq (.ops [⟨d28,.p (.mv t15),none⟩,
⟨d29,.p (.bin .neq t28 k0),none⟩])
 (.cond t29 (.seq (.ops [⟨d30,.p (.mv t15),none⟩,
⟨d12,.p (.mv (.c .nilp)),none⟩,
⟨d13,.p (.mv t30),none⟩])
 .ret)
 .skip)))
 (.seq (.ops [⟨d31,.p (.mv t14),none⟩,
⟨d32,.p (.mv t4),none⟩,
⟨d33,.r (.ldA 2 t8),none⟩,
⟨d34,.p (.build [(.int .i64 (.ofNat 0)),(.int .i64 (.ofNat 0)),(.int .i64 (.ofNat 0)),.nils,(.str []),.nils] [(0, 1, t32),(1, 1, k2),(2, 2, t33)]),none⟩,
⟨d35,.a (.bslice 186 6 1 [(.int .i64 (.ofNat 0)),(.int .i64 (.ofNat 0)),(.int .i64 (.ofNat 0)),.nils,(.str []),.nils] [(0, 6, t34)]),none⟩,
⟨d36,.p (.nilck t31),none⟩,
⟨d37,.p (.faddr 0 t36),none⟩,
⟨none,.w (.st 1 t37 t35),none⟩])
 (.seq (.ops [⟨d38,.p (.mv t14),none⟩,
⟨d12,.p (.mv t38),none⟩,
⟨d13,.p (.mv k0),none⟩])
 .ret)))))⟩
theorem c35 : Go.Ev.EntOk Go.Proofs.Tryz.prog (35, f35) := ⟨Go.Proofs.Tryz.f35, Go.Proofs.Tryz.func35, by kernel_rfl, Go.Proofs.Tryz.call35⟩
def f36 : IFunc := ⟨3, [.t p6], (.seq (.ops [⟨d4,.a (.box 113 t1),none⟩,
⟨d6,.p (.mv (.c .nilp)),none⟩])
 (.seq (.ops [⟨d8,.p (.mv t0),none⟩,
⟨d9,.r (.ldA 4 t4),none⟩,
⟨d10,.p (.build [.nilp,(.int .i64 (.ofNat 0)),(.int .i64 (.ofNat 0)),(.int .i64 (.ofNat 0)),(.int .i64 (.ofNat 0)),(.bool false),(.int .i64 (.ofNat 0)),.nils,(.int .i64 (.ofNat 0)),(.int .i64 (.ofNat 0)),(.int .i64 (.ofNat 0)),(.int .i64 (.ofNat 0)),(.bool false),(.int .i64 (.ofNat 0)),.nils,(.int .i64 (.ofNat 0)),(.int .i64 (.ofNat 0)),(.int .i64 (.ofNat 0)),(.int .i64 (.ofNat 0)),(.bool false),(.int .i64 (.ofNat 0)),.nils,(.int .i64 (.ofNat 0)),(.int .i64 (.ofNat 0)),(.int .i64 (.ofNat 0)),(.int .i64 (.ofNat 0)),(.bool false),(.int .i64 (.ofNat 0)),.nils,(.int .i64 (.ofNat 0)),(.int .i64 (.ofNat 0)),(.int .i64 (.ofNat 0)),(.int .i64 (.ofNat 0)),(.bool false),(.int .i64 (.ofNat 0)),.nils,(.int .i64 (.ofNat 0)),(.int .i64 (.ofNat 0)),(.int .i64 (.ofNat 0)),(.int .i64 (.ofNat 0)),(.bool false),(.int .i64 (.ofNat 0)),.nils,(.int .i64 (.ofNat 0)),(.int .i64 (.ofNat 0)),(.int .i64 (.ofNat 0)),(.int .i64 (.ofNat 0)),(.bool false),(.int .i64 (.ofNat 0)),.nils,(.int .i64 (.ofNat 0)),(.int .i64 (.ofNat 0)),(.int .i64 (.ofNat 0)),(.int .i64 (.ofNat 0)),(.bool false),(.int .i64 (.ofNat 0)),.nils,(.int .i64 (.ofNat 0)),(.int .i64 (.ofNat 0)),(.int .i64 (.ofNat 0)),(.int .i64 (.ofNat 0)),(.bool false),(.int .i64 (.ofNat 0)),.nils,(.int .i64 (.ofNat 0)),(.int .i64 (.ofNat 0)),(.int .i64 (.ofNat 0)),(.int .i64 (.ofNat 0)),(.bool false),(.int .i64 (.ofNat 0)),.nils,(.int .i64 (.ofNat 0)),(.int .i64 (.ofNat 0)),(.int .i64 (.ofNat 0)),(.int .i64 (.ofNat 0)),(.bool false),(.int .i64 (.ofNat 0)),.nils,(.int .i64 (.ofNat 0)),(.int .i64 (.ofNat 0)),(.int .i64 (.ofNat 0)),(.int .i64 (.ofNat 0)),(.bool false),(.int .i64 (.ofNat 0)),.nils,(.int .i64 (.ofNat 0)),(.int .i64 (.ofNat 0)),(.int .i64 (.ofNat 0)),(.int .i64 (.ofNat 0)),(.bool false),(.int .i64 (.ofNat 0)),.nils,(.int .i64 (.ofNat 0)),(.int .i64 (.ofNat 0)),(.int .i64 (.ofNat 0)),(.int .i64 (.ofNat 0)),(.bool false),(.int .i64 (.ofNat 0)),.nils,(.int .i64 (.ofNat 0)),(.int .i64 (.ofNat 0)),(.int .i64 (.ofNat 0)),(.int .i64 (.ofNat 0)),(.bool false),(.int .i64 (.ofNat 0)),.nils,(.int .i64 (.ofNat 0)),(.int .i64 (.ofNat 0)),(.int .i64 (.ofNat 0)),(.int .i64 (.ofNat 0)),(.bool false),(.int .i64 (.ofNat 0)),.nils,(.int .i64 (.ofNat 0)),(.int .i64 (.ofNat 0)),(.int .i64 (.ofNat 0)),(.int .i64 (.ofNat 0)),(.bool false),(.int .i64 (.ofNat 0)),.nils,(.int .i64 (.ofNat 0)),(.int .i64 (.ofNat 0)),(.int .i64 (.ofNat 0)),(.int .i64 (.ofNat 0)),(.bool false),(.int .i64 (.ofNat 0)),.nils,(.int .i64 (.ofNat 0)),(.int .i64 (.ofNat 0)),(.int .i64 (.ofNat 0)),(.int .i64 (.ofNat 0)),(.bool false),(.int .i64 (.ofNat 0)),.nils,(.int .i64 (.ofNat 0)),(.int .i64 (.ofNat 0)),(.int .i64 (.ofNat 0)),(.int .i64 (.ofNat 0)),(.bool false),(.int .i64 (.ofNat 0)),.nils,(.int .i64 (.ofNat 0)),(.int .i64 (.ofNat 0)),(.int .i64 (.ofNat 0)),(.int .i64 (.ofNat 0)),(.bool false),(.int .i64 (.ofNat 0)),.nils,(.int .i64 (.ofNat 0)),(.int .i64 (.ofNat 0)),(.int .i64 (.ofNat 0)),(.int .i64 (.ofNat 0)),(.bool false),(.int .i64 (.ofNat 0)),.nils,(.int .i64 (.ofNat 0)),(.int .i64 (.ofNat 0)),(.int .i64 (.ofNat 0)),(.int .i64 (.ofNat 0)),(.bool false),(.int .i64 (.ofNat 0)),.nils,(.int .i64 (.ofNat 0)),(.int .i64 (.ofNat 0)),(.int .i64 (.ofNat 0)),(.int .i64 (.ofNat 0)),(.bool false),(.int .i64 (.ofNat 0)),.nils,(.int .i64 (.ofNat 0)),(.int .i64 (.ofNat 0)),(.int .i64 (.ofNat 0)),(.int .i64 (.ofNat 0)),(.bool false),(.int .i64 (.ofNat 0)),.nils,(.int .i64 (.ofNat 0)),(.int .i64 (.ofNat 0)),(.int .i64 (.ofNat 0)),(.int .i64 (.ofNat 0)),(.bool false),(.int .i64 (.ofNat 0)),.nils,(.int .i64 (.ofNat 0)),(.int .i64 (.ofNat 0)),(.int .i64 (.ofNat 0)),(.int .i64 (.ofNat 0)),(.bool false),(.int .i64 (.ofNat 0)),.nils,(.int .i64 (.ofNat 0)),(.int .i64 (.ofNat 0)),(.int .i64 (.ofNat 0)),(.int .i64 (.ofNat 0)),(.bool false),(.int .i64 (.ofNat 0)),.nils,(.int .i64 (.ofNat 0)),(.int .i64 (.ofNat 0)),(.int .i64 (.ofNat 0)),(.int .i64 (.ofNat 0)),(.bool false),(.int .i64 (.ofNat 0)),.nils,(.int .i64 (.ofNat 0)),(.int .i64 (.ofNat 0)),(.int .i64 (.ofNat 0)),(.int .i64 (.ofNat 0)),(.bool false),(.int .i64 (.ofNat 0)),.nils,(.int .i64 (.ofNat 0)),(.int .i64 (.ofNat 0)),(.int .i64 (.ofNat 0)),(.int .i64 (.ofNat 0)),(.bool false),(.int .i64 (.ofNat 0)),.nils,(.int .i64 (.ofNat 0)),(.int .i64 (.ofNat 0)),(.int .i64 (.ofNat 0)),(.int .i64 (.ofNat 0)),(.bool false),(.int .i64 (.ofNat 0)),.nils,(.int .i64 (.ofNat 0)),.nils,(.int .i64 (.ofNat 0)),.nils] [(0, 1, t8),(225, 4, t9)]),none⟩,
⟨d11,.a (.box 191 t10),none⟩,
⟨d7,.p (.mv t11),none⟩])
 (.seq (.ops [⟨d12,.p (.mv t7),none⟩,
⟨d13,.p (.mv t2),none⟩,
⟨d14,.p (.build [(.int .i64 (.ofNat 0)),(.int .i64 (.ofNat 0)),(.int .i64 (.ofNat 0)),(.int .i64 (.ofNat 0)),(.bool false),(.int .i64 (.ofNat 0)),.nils] [(0, 1, k1),(1, 1, k1),(2, 1, t13)]),none⟩,
⟨d15,.p (.nilck t12),none⟩,
⟨d16,.p (.faddr 1 t15),none⟩,
⟨d17,.p (.iaddrA 32 7 t16 k0),none⟩,
⟨none,.w (.st 7 t17 t14),none⟩])
 (.seq (.ops [⟨d18,.p (.mv t7),none⟩,
⟨d6,.p (.mv t18),none⟩])
 .ret))))⟩
theorem c36 : Go.Ev.EntOk Go.Proofs.Tryz.prog (36, f36) := ⟨Go.Proofs.Tryz.f36, Go.Proofs.Tryz.func36, by kernel_rfl, Go.Proofs.Tryz.call36⟩
def f37 : IFunc := ⟨2, [.t p4], (.seq (.ops [⟨d3,.a (.box 49 t1),none⟩,
⟨d4,.p (.mv (.c .nilp)),none⟩])
 (.seq (.reg [⟨[2],⟨d7,.call p84 [],none⟩,0,0⟩,
⟨[0],⟨d5,.p (.mv t0),none⟩,0,1⟩,
⟨[1],⟨d6,.r (.ldA 2 t3),none⟩,0,1⟩,
⟨[3],⟨d8,.a (.bslice 42 1 1 [.nils] [(0, 1, t7)]),none⟩,1,1⟩,
⟨[4],⟨d9,.p (.build [.nilp,.nils,.nils,.nils,(.int .i64 (.ofNat 0)),.nils] [(0, 1, t5),(4, 2, t6),(3, 1, t8)]),none⟩,1,1⟩,
⟨[5],⟨d10,.a (.box 197 t9),none⟩,1,1⟩,
⟨[6],⟨d4,.p (.mv t10),none⟩,1,1⟩])
 .ret))⟩
theorem c37 : Go.Ev.EntOk Go.Proofs.Tryz.prog (37, f37) := ⟨Go.Proofs.Tryz.f37, Go.Proofs.Tryz.func37, by kernel_rfl, Go.Proofs.Tryz.call37⟩
def f38 : IFunc := ⟨2, [.t p4,.cA p5 6,.t p6], (.seq (.ops [⟨d3,.a (.box 36 t1),none⟩,
⟨d4,.p (.mv (.c .nilp)),none⟩,
⟨d5,.a (.alloc 77 [(.int .i64 (.ofNat 0)),(.int .i64 (.ofNat 0)),(.int .i64 (.ofNat 0)),(.int .i64 (.ofNat 0)),(.bool false),(.int .i64 (.ofNat 0))]),none⟩,
⟨d6,.p (.mv k0),none⟩])
 (.seq (.seq (.ops [⟨d15,.p (.mv t0),none⟩,
⟨d16,.p (.eqp false t15 (.c .nilp)),none⟩])
 (.cond t16 (.seq (.ops [⟨d17,.p (.build [(.int .i64 (.ofNat 0)),(.int .i64 (.ofNat 0)),(.int .i64 (.ofNat 0)),(.int .i64 (.ofNat 0)),(.bool false),(.int .i64 (.ofNat 0))] []),none⟩,
⟨d4,.p (.mv (.c .nilp)),none⟩,
⟨none,.w (.st 6 t5 t17),none⟩,
⟨d6,.p (.mv k4),none⟩])
 .ret)
 .skip))
 (.seq (.seq (.reg [⟨[6],⟨d25,.p (.mv t0),none⟩,0,0⟩,
⟨[7],⟨d26,.p (.mv t0),none⟩,0,0⟩,
⟨[8],⟨d27,.p (.nilck t26),none⟩,0,0⟩,
⟨[9],⟨d28,.p (.faddr 2 t27),none⟩,0,0⟩,
⟨[10],⟨d29,.r (.ldS t28),none⟩,0,0⟩,
⟨[11],⟨d30,.call p41 [t25,t29],none⟩,0,0⟩,
⟨[0],⟨d19,.p (.mv t0),none⟩,0,1⟩,
⟨[1],⟨d20,.p (.nilck t19),none⟩,0,1⟩,
⟨[2],⟨d21,.p (.faddr 0 t20),none⟩,0,1⟩,
⟨[3],⟨d22,.r (.ldS t21),none⟩,0,1⟩,
⟨[4],⟨d23,.p (.faddr 0 t3),none⟩,0,1⟩,
⟨[5],⟨d24,.r (.ldS t23),none⟩,0,1⟩,
⟨[12],⟨d31,.p (.build [(.int .i64 (.ofNat 0)),(.int .i64 (.ofNat 0)),(.int .i64 (.ofNat 0)),(.int .i64 (.ofNat 0)),(.int .i64 (.ofNat 0)),(.int .i64 (.ofNat 0)),(.int .i64 (.ofNat 0)),(.int .i64 (.ofNat 0)),(.int .i64 (.ofNat 0)),.nils,(.int .i64 (.ofNat 0)),.nils,(.str []),(.int .i64 (.ofNat 0)),(.int .i64 (.ofNat 0)),(.int .i64 (.ofNat 0)),(.int .i64 (.ofNat 0)),(.int .i64 (.ofNat 0)),(.bool false),(.bool false)] [(0, 1, k15),(1, 2, t30)]),none⟩,1,1⟩,
⟨[13],⟨d32,.call p17 [t22,t24,t31,k0],none⟩,1,1⟩,
⟨[14],⟨d18,.p (.mv t32),none⟩,2,2⟩,
⟨[15],⟨d33,.p (.ext t18 0),none⟩,2,2⟩,
⟨[17],⟨d7,.a (.alloc 52 [(.int .i64 (.ofNat 0)),(.str []),(.int .i64 (.ofNat 0)),.nils,(.int .i64 (.ofNat 0)),.nils,.nils,.nils]),none⟩,0,2⟩,
⟨[18],⟨none,.w (.st 8 t7 t33),none⟩,2,2⟩,
⟨[16],⟨d34,.p (.ext t18 1),none⟩,2,3⟩,
⟨[19],⟨d8,.p (.mv t34),none⟩,3,3⟩])
 (.seq (.ops [⟨d35,.p (.mv t8),none⟩,
⟨d36,.p (.bin .neq t35 k0),none⟩])
 (.cond t36 (.seq (.ops [⟨d37,.p (.build [(.int .i64 (.ofNat 0)),(.int .i64 (.ofNat 0)),(.int .i64 (.ofNat 0)),(.int .i64 (.ofNat 0)),(.bool false),(.int .i64 (.ofNat 0))] []),none⟩,
⟨d38,.p (.mv t8),none⟩,
⟨d39,.call p43 [t38],none⟩,
⟨d4,.p (.mv (.c .nilp)),none⟩,
⟨none,.w (.st 6 t5 t37),none⟩,
⟨d6,.p (.mv t39),none⟩])
 .ret)
 .skip)))
 (.seq (.reg [⟨[6],⟨d47,.p (.mv t0),none⟩,0,0⟩,
⟨[7],⟨d48,.p (.mv t0),none⟩,0,0⟩,
⟨[8],⟨d49,.p (.nilck t48),none⟩,0,0⟩,
⟨[9],⟨d50,.p (.faddr 2 t49),none⟩,0,0⟩,
⟨[10],⟨d51,.r (.ldS t50),none⟩,0,0⟩,
⟨[11],⟨d52,.call p41 [t47,t51],none⟩,0,0⟩,
⟨[0],⟨d41,.p (.mv t0),none⟩,0,1⟩,
⟨[1],⟨d42,.p (.nilck t41),none⟩,0,1⟩,
⟨[2],⟨d43,.p (.faddr 0 t42),none⟩,0,1⟩,
⟨[3],⟨d44,.r (.ldS t43),none⟩,0,1⟩,
⟨[4],⟨d45,.p (.faddr 0 t3),none⟩,0,1⟩,
⟨[5],⟨d46,.r (.ldS t45),none⟩,0,1⟩,
⟨[12],⟨d53,.p (.build [(.int .i64 (.ofNat 0)),(.int .i64 (.ofNat 0)),(.int .i64 (.ofNat 0)),(.int .i64 (.ofNat 0)),(.int .i64 (.ofNat 0)),(.int .i64 (.ofNat 0)),(.int .i64 (.ofNat 0)),(.int .i64 (.ofNat 0)),(.int .i64 (.ofNat 0)),.nils,(.int .i64 (.ofNat 0)),.nils,(.str []),(.int .i64 (.ofNat 0)),(.int .i64 (.ofNat 0)),(.int .i64 (.ofNat 0)),(.int .i64 (.ofNat 0)),(.int .i64 (.ofNat 0)),(.bool false),(.bool false)] [(0, 1, k14),(1, 2, t52),(6, 1, (.c (.int .i64 (.ofNat 1280))))]),none⟩,1,1⟩,
⟨[13],⟨d54,.call p17 [t44,t46,t53,k0],none⟩,1,1⟩,
⟨[14],⟨d40,.p (.mv t54),none⟩,2,2⟩,
⟨[15],⟨d55,.p (.ext t40 0),none⟩,2,2⟩,
⟨[17],⟨d9,.a (.alloc 52 [(.int .i64 (.ofNat 0)),(.str []),(.int .i64 (.ofNat 0)),.nils,(.int .i64 (.ofNat 0)),.nils,.nils,.nils]),none⟩,0,2⟩,
⟨[18],⟨none,.w (.st 8 t9 t55),none⟩,2,2⟩,
⟨[16],⟨d56,.p (.ext t40 1),none⟩,2,3⟩,
⟨[19],⟨d10,.p (.mv t56),none⟩,3,3⟩])
 (.seq (.ops [⟨d57,.p (.faddr 1 t9),none⟩,
⟨d58,.r (.ldS t57),none⟩,
⟨d59,.call p77 [t58],none⟩,
⟨d11,.p (.mv t59),none⟩])
 (.seq (.ops [⟨d60,.p (.build [(.int .i64 (.ofNat 0)),(.int .i64 (.ofNat 0)),(.int .i64 (.ofNat 0)),(.int .i64 (.ofNat 0)),(.bool false),(.int .i64 (.ofNat 0))] []),none⟩,
⟨d12,.a (.alloc 77 [(.int .i64 (.ofNat 0)),(.int .i64 (.ofNat 0)),(.int .i64 (.ofNat 0)),(.int .i64 (.ofNat 0)),(.bool false),(.int .i64 (.ofNat 0))]),none⟩,
⟨none,.w (.st 6 t12 t60),none⟩])
 (.seq (.seq (.ops [⟨d61,.p (.mv t11),none⟩,
⟨d62,.p (.nilck t61),none⟩,
⟨d63,.p (.mv k0),none⟩])
 (.block 0 (.loop (.seq (.ops [⟨d64,.p (.bin .lss t63 k32),none⟩])
 (.seq (.cond t64 .skip
 (.exit 0))
 (.seq (.block 1 (.seq (.ops [⟨d65,.p (.nilck t61),none⟩,
⟨d66,.p (.iaddrA 32 6 t65 t63),none⟩,
⟨d67,.r (.ldA 6 t66),none⟩,
⟨d14,.a (.alloc 77 [(.int .i64 (.ofNat 0)),(.int .i64 (.ofNat 0)),(.int .i64 (.ofNat 0)),(.int .i64 (.ofNat 0)),(.bool false),(.int .i64 (.ofNat 0))]),none⟩,
⟨none,.w (.st 6 t14 t67),none⟩])
 (.seq (.ops [⟨d68,.p (.faddr 2 t14),none⟩,
⟨d69,.r (.ldS t68),none⟩,
⟨d70,.p (.faddr 0 t3),none⟩,
⟨d71,.r (.ldS t70),none⟩,
⟨d72,.p (.bin .eql t69 t71),none⟩,
⟨d73,.p (.mv t72),none⟩,
⟨d74,.p (.faddr 1 t14),(some (p73, true))⟩,
⟨d75,.r (.ldS t74),(some (p73, true))⟩,
⟨d76,.p (.bin .neq t75 k0),(some (p73, true))⟩,
⟨d77,.p (.pick t73 t76 (.c (.bool false))),none⟩,
⟨d78,.p (.mv t77),none⟩,
⟨d79,.p (.faddr 4 t14),(some (p78, true))⟩,
⟨d80,.r (.ldS t79),(some (p78, true))⟩,
⟨d81,.p (.not t80),(some (p78, true))⟩,
⟨d82,.p (.pick t78 t81 (.c (.bool false))),none⟩])
 (.cond t82 (.ops [⟨d83,.r (.ldA 6 t14),none⟩,
⟨none,.w (.st 6 t12 t83),none⟩])
 .skip))))
 (.ops [⟨d84,.p (.bin .add t63 k1),none⟩,
⟨d63,.p (.mv t84),none⟩])))))))
 (.seq (.seq (.ops [⟨d85,.p (.faddr 0 t12),none⟩,
⟨d86,.r (.ldS t85),none⟩,
⟨d87,.p (.bin .eql t86 k0),none⟩])
 (.cond t87 (.seq (.reg [⟨[0],⟨d88,.r (.ldA 6 t12),none⟩,0,0⟩,
⟨[1],⟨d4,.p (.mv (.c .nilp)),none⟩,0,0⟩,
⟨[2],⟨none,.w (.st 6 t5 t88),none⟩,0,0⟩,
⟨[3],⟨d6,.p (.mv k36),none⟩,1,1⟩])
 .ret)
 .skip))
 (.seq (.reg [⟨[0],⟨d89,.p (.mv t11),none⟩,0,0⟩,
⟨[1],⟨d90,.r (.ldA 6 t12),none⟩,0,0⟩,
⟨[2],⟨d4,.p (.mv t89),none⟩,0,0⟩,
⟨[3],⟨none,.w (.st 6 t5 t90),none⟩,0,0⟩,
⟨[4],⟨d6,.p (.mv k0),none⟩,1,1⟩])
 .ret)))))))))⟩
theorem c38 : Go.Ev.EntOk Go.Proofs.Tryz.prog (38, f38) := ⟨Go.Proofs.Tryz.f38, Go.Proofs.Tryz.func38, by kernel_rfl, Go.Proofs.Tryz.call38⟩
def f39 : IFunc := ⟨2, [.t p4], (.seq (.ops [⟨d4,.p (.mv (.c .nilp)),none⟩])
 (.seq (.seq (.ops [⟨d6,.p (.mv t0),none⟩,
⟨d7,.p (.eqp false t6 (.c .nilp)),none⟩])
 (.cond t7 (.seq (.ops [⟨d4,.p (.mv (.c .nilp)),none⟩])
 .ret)
 .skip))
 (.seq (.ops [⟨d8,.p (.mv t0),none⟩,
⟨d9,.p (.nilck t8),none⟩,
⟨d10,.r (.ldA 6 t9),none⟩,
⟨d5,.a (.alloc 158 [.nilp,.nilp,(.int .i64 (.ofNat 0)),(.int .i64 (.ofNat 0)),(.int .i64 (.ofNat 0)),.nils]),none⟩,
⟨none,.w (.st 6 t5 t10),none⟩])
 (.seq (.ops [⟨d11,.p (.mv t1),none⟩,
⟨d12,.p (.faddr 3 t5),none⟩,
⟨none,.w (.st 1 t12 t11),none⟩])
 (.seq (.ops [⟨d4,.p (.mv t5),none⟩])
 .ret)))))⟩
theorem c39 : Go.Ev.EntOk Go.Proofs.Tryz.prog (39, f39) := ⟨Go.Proofs.Tryz.f39, Go.Proofs.Tryz.func39, by kernel_rfl, Go.Proofs.Tryz.call39⟩
def f40 : IFunc := ⟨2, [.t p4,.t p5], (.seq (.ops [⟨d3,.a (.box 36 t1),none⟩,
⟨d4,.p (.mv (.c .nilp)),none⟩,
⟨d5,.p (.mv k0),none⟩])
 (.seq (.ops [⟨d14,.p (.mv t0),none⟩,
⟨d15,.r (.ldA 2 t3),none⟩,
⟨d16,.call p65 [t14,t15],none⟩,
⟨d13,.p (.mv t16),none⟩,
⟨d17,.p (.ext t13 0),none⟩,
⟨d18,.p (.ext t13 1),none⟩,
⟨d6,.p (.mv t17),none⟩,
⟨d7,.p (.mv t18),none⟩])
 (.seq (.seq (.ops [⟨d19,.p (.mv t7),none⟩,
⟨d20,.p (.bin .neq t19 k0),none⟩])
 (.cond t20 (.seq (.ops [⟨d21,.p (.mv t7),none⟩,
⟨d4,.p (.mv (.c .nilp)),none⟩,
⟨d5,.p (.mv t21),none⟩])
 .ret)
 .skip))
 (.seq (.seq (.ops [⟨d22,.p (.mv t0),none⟩,
⟨d23,.r (.ldA 2 t3),none⟩,
⟨d24,.call p67 [t22,t23,k0,(.c (.int .i64 (.ofNat 128)))],none⟩,
⟨d8,.p (.mv t24),none⟩])
 (.seq (.ops [⟨d25,.p (.mv t8),none⟩,
⟨d26,.p (.bin .neq t25 k0),none⟩])
 (.cond t26 (.seq (.ops [⟨d27,.p (.mv t8),none⟩,
⟨d4,.p (.mv (.c .nilp)),none⟩,
⟨d5,.p (.mv t27),none⟩])
 .ret)
 .skip)))
 (.seq (.seq (.ops [⟨d28,.p (.mv t6),none⟩,
⟨d29,.p (.lenSl t28),none⟩,
⟨d30,.p (.mv k0),none⟩])
 (.block 0 (.loop (.seq (.ops [⟨d31,.p (.bin .lss t30 t29),none⟩])
 (.seq (.cond t31 .skip
 (.exit 0))
 (.seq (.block 1 (.seq (.ops [⟨d32,.p (.iaddrS 1 t28 t30),none⟩,
⟨d33,.r (.ldS t32),none⟩,
⟨d10,.p (.mv t33),none⟩])
 (.seq (.ops [⟨d34,.p (.mv t10),none⟩,
⟨d35,.p (.bin .neq t34 k0),none⟩])
 (.cond t35 (.seq (.ops [⟨d36,.p (.mv t0),none⟩,
⟨d37,.r (.ldA 2 t3),none⟩,
⟨d38,.p (.mv t10),none⟩,
⟨d39,.call p85 [t36,t37,t38,k48],none⟩,
⟨d11,.p (.mv t39),none⟩])
 (.reg [⟨[0],⟨d40,.p (.mv t0),none⟩,0,0⟩,
⟨[1],⟨d41,.r (.ldA 2 t3),none⟩,0,0⟩,
⟨[2],⟨d42,.p (.mv t10),none⟩,0,0⟩,
⟨[3],⟨d43,.p (.mv t11),none⟩,0,0⟩,
⟨[4],⟨d44,.p (.iaddrS 1 t43 k4),none⟩,0,0⟩,
⟨[5],⟨d45,.r (.ldS t44),none⟩,0,0⟩,
⟨[6],⟨d46,.p (.bin .add t45 k1),none⟩,0,0⟩,
⟨[7],⟨d47,.a (.bslice 3 1 1 [(.int .i64 (.ofNat 0))] [(0, 1, t46)]),none⟩,0,0⟩,
⟨[8],⟨d48,.call p69 [t40,t41,t42,k4,t47],none⟩,0,0⟩]))
 .skip))))
 (.ops [⟨d49,.p (.bin .add t30 k1),none⟩,
⟨d30,.p (.mv t49),none⟩])))))))
 (.seq (.ops [⟨d50,.p (.mv t0),none⟩,
⟨d51,.p (.nilck t50),none⟩,
⟨d52,.r (.ldA 6 t51),none⟩,
⟨d12,.a (.alloc 158 [.nilp,.nilp,(.int .i64 (.ofNat 0)),(.int .i64 (.ofNat 0)),(.int .i64 (.ofNat 0)),.nils]),none⟩,
⟨none,.w (.st 6 t12 t52),none⟩])
 (.seq (.ops [⟨d53,.p (.faddr 1 t3),none⟩,
⟨d54,.r (.ldS t53),none⟩,
⟨d55,.p (.faddr 3 t12),none⟩,
⟨none,.w (.st 1 t55 t54),none⟩])
 (.seq (.ops [⟨d56,.r (.ldA 2 t3),none⟩,
⟨d57,.p (.faddr 3 t12),none⟩,
⟨d58,.r (.ldS t57),none⟩,
⟨d59,.p (.mv t6),none⟩,
⟨d60,.call p69 [t12,t56,t58,k0,t59],none⟩])
 (.seq (.ops [⟨d4,.p (.mv t12),none⟩,
⟨d5,.p (.mv k0),none⟩])
 .ret)))))))))⟩
theorem c40 : Go.Ev.EntOk Go.Proofs.Tryz.prog (40, f40) := ⟨Go.Proofs.Tryz.f40, Go.Proofs.Tryz.func40, by kernel_rfl, Go.Proofs.Tryz.call40⟩
def f41 : IFunc := ⟨2, [.cA p4 2], (.seq (.ops [⟨d4,.a (.alloc 56 [(.int .i64 (.ofNat 0)),(.int .i64 (.ofNat 0))]),none⟩])
 (.seq (.ops [⟨d5,.p (.mv t0),none⟩,
⟨d6,.p (.nilck t5),none⟩,
⟨d7,.p (.faddr 1 t6),none⟩,
⟨d8,.r (.ldS t7),none⟩,
⟨d9,.call p86 [t8],none⟩,
⟨d10,.p (.mv t1),none⟩,
⟨d11,.p (.build [(.int .i64 (.ofNat 0)),(.int .i64 (.ofNat 0))] [(0, 1, t9),(1, 1, t10)]),none⟩,
⟨none,.w (.st 2 t4 t11),none⟩])
 .ret))⟩
theorem c41 : Go.Ev.EntOk Go.Proofs.Tryz.prog (41, f41) := ⟨Go.Proofs.Tryz.f41, Go.Proofs.Tryz.func41, by kernel_rfl, Go.Proofs.Tryz.call41⟩
def f42 : IFunc := ⟨2, [.t p4], (.seq (.ops [⟨d3,.a (.box 36 t1),none⟩,
⟨d4,.p (.mv k0),none⟩])
 (.seq (.ops [⟨d10,.p (.mv t0),none⟩,
⟨d11,.r (.ldA 2 t3),none⟩,
⟨d12,.call p28 [t10,t11],none⟩,
⟨d9,.p (.mv t12),none⟩,
⟨d13,.p (.ext t9 0),none⟩,
⟨d14,.p (.ext t9 1),none⟩,
⟨d5,.p (.mv t13),none⟩,
⟨d6,.p (.mv t14),none⟩])
 (.seq (.seq (.ops [⟨d15,.p (.mv t6),none⟩,
⟨d16,.p (.bin .neq t15 k0),none⟩])
 (.cond t16 (.seq (.ops [⟨d17,.p (.mv t6),none⟩,
⟨d4,.p (.mv t17),none⟩])
 .ret)
 .skip))
 (.seq (.seq (.ops [⟨d18,.p (.mv t5),none⟩,
⟨d19,.p (.lenSl t18),none⟩,
⟨d20,.p (.mv k0),none⟩])
 (.block 0 (.loop (.seq (.ops [⟨d21,.p (.bin .lss t20 t19),none⟩])
 (.seq (.cond t21 .skip
 (.exit 0))
 (.seq (.block 1 (.seq (.ops [⟨d22,.p (.iaddrS 1 t18 t20),none⟩,
⟨d23,.r (.ldS t22),none⟩,
⟨d8,.p (.mv t23),none⟩])
 (.ops [⟨d24,.p (.mv t0),none⟩,
⟨d25,.r (.ldA 2 t3),none⟩,
⟨d26,.p (.mv t8),none⟩,
⟨d27,.call p23 [t24,t25,t26],none⟩])))
 (.ops [⟨d28,.p (.bin .add t20 k1),none⟩,
⟨d20,.p (.mv t28),none⟩])))))))
 (.seq (.reg [⟨[0],⟨d29,.p (.mv t0),none⟩,0,0⟩,
⟨[1],⟨d30,.r (.ldA 2 t3),none⟩,0,0⟩,
⟨[2],⟨d31,.p (.mv t0),none⟩,0,0⟩,
⟨[3],⟨d32,.p (.nilck t31),none⟩,0,0⟩,
⟨[4],⟨d33,.p (.faddr 3 t32),none⟩,0,0⟩,
⟨[5],⟨d34,.r (.ldS t33),none⟩,0,0⟩,
⟨[6],⟨d35,.call p68 [t29,t30,t34],none⟩,0,0⟩])
 (.seq (.ops [⟨d4,.p (.mv k0),none⟩])
 .ret))))))⟩
theorem c42 : Go.Ev.EntOk Go.Proofs.Tryz.prog (42, f42) := ⟨Go.Proofs.Tryz.f42, Go.Proofs.Tryz.func42, by kernel_rfl, Go.Proofs.Tryz.call42⟩
def f43 : IFunc := ⟨1, [.t p2], (.seq (.ops [⟨d2,.p (.mv k0),none⟩])
 (.seq (.seq (.ops [⟨d3,.p (.mv t0),none⟩])
 (.block 0 (.seq (.seq (.ops [⟨d5,.p (.bin .eql t3 k0),none⟩,
⟨d4,.p (.mv t5),none⟩])
 (.cond t4 .skip
 (.ops [⟨d6,.p (.bin .eql t3 k11),none⟩,
⟨d4,.p (.mv t6),none⟩])))
 (.cond t4 (.seq (.ops [⟨d7,.p (.mv t0),none⟩,
⟨d2,.p (.mv t7),none⟩])
 .ret)
 (.seq (.seq (.ops [⟨d9,.p (.bin .eql t3 k3),none⟩,
⟨d8,.p (.mv t9),none⟩])
 (.cond t8 .skip
 (.ops [⟨d10,.p (.bin .eql t3 k4),none⟩,
⟨d8,.p (.mv t10),none⟩])))
 (.cond t8 (.seq (.ops [⟨d2,.p (.mv k26),none⟩])
 .ret)
 (.seq (.seq (.ops [⟨d12,.p (.bin .eql t3 k6),none⟩,
⟨d11,.p (.mv t12),none⟩])
 (.cond t11 .skip
 (.ops [⟨d13,.p (.bin .eql t3 k7),none⟩,
⟨d11,.p (.mv t13),none⟩])))
 (.cond t11 (.seq (.ops [⟨d2,.p (.mv k27),none⟩])
 .ret)
 .skip))))))))
 (.seq (.ops [⟨d2,.p (.mv k31),none⟩])
 .ret)))⟩
theorem c43 : Go.Ev.EntOk Go.Proofs.Tryz.prog (43, f43) := ⟨Go.Proofs.Tryz.f43, Go.Proofs.Tryz.func43, by kernel_rfl, Go.Proofs.Tryz.call43⟩
def f44 : IFunc := ⟨3, [], (.seq (.ops [⟨d4,.a (.box 36 t1),none⟩,
⟨d5,.a (.box 77 t2),none⟩])
 (.reg [⟨[6],⟨d12,.p (.mv t0),none⟩,0,0⟩,
⟨[7],⟨d13,.p (.mv t0),none⟩,0,0⟩,
⟨[8],⟨d14,.p (.nilck t13),none⟩,0,0⟩,
⟨[9],⟨d15,.p (.faddr 2 t14),none⟩,0,0⟩,
⟨[10],⟨d16,.r (.ldS t15),none⟩,0,0⟩,
⟨[11],⟨d17,.call p41 [t12,t16],none⟩,0,0⟩,
⟨[16],⟨d22,.call p87 [],none⟩,1,1⟩,
⟨[17],⟨d23,.r (.ldA 6 t5),none⟩,0,2⟩,
⟨[18],⟨d24,.call p88 [t22,t23],none⟩,2,2⟩,
⟨[0],⟨d6,.p (.mv t0),none⟩,0,3⟩,
⟨[1],⟨d7,.p (.nilck t6),none⟩,0,3⟩,
⟨[2],⟨d8,.p (.faddr 0 t7),none⟩,0,3⟩,
⟨[3],⟨d9,.r (.ldS t8),none⟩,0,3⟩,
⟨[4],⟨d10,.p (.faddr 0 t4),none⟩,0,3⟩,
⟨[5],⟨d11,.r (.ldS t10),none⟩,0,3⟩,
⟨[12],⟨d18,.p (.faddr 0 t5),none⟩,0,3⟩,
⟨[13],⟨d19,.r (.ldS t18),none⟩,0,3⟩,
⟨[14],⟨d20,.p (.bin .sub t19 k1),none⟩,0,3⟩,
⟨[15],⟨d21,.p (.bin .mul k40 t20),none⟩,0,3⟩,
⟨[19],⟨d25,.p (.build [(.int .i64 (.ofNat 0)),(.int .i64 (.ofNat 0)),(.int .i64 (.ofNat 0)),(.int .i64 (.ofNat 0)),(.int .i64 (.ofNat 0)),(.int .i64 (.ofNat 0)),(.int .i64 (.ofNat 0)),(.int .i64 (.ofNat 0)),(.int .i64 (.ofNat 0)),.nils,(.int .i64 (.ofNat 0)),.nils,(.str []),(.int .i64 (.ofNat 0)),(.int .i64 (.ofNat 0)),(.int .i64 (.ofNat 0)),(.int .i64 (.ofNat 0)),(.int .i64 (.ofNat 0)),(.bool false),(.bool false)] [(0, 1, k15),(1, 2, t17),(5, 1, t21),(12, 1, t24)]),none⟩,3,3⟩,
⟨[20],⟨d26,.call p17 [t9,t11,t25,k0],none⟩,3,3⟩]))⟩
theorem c44 : Go.Ev.EntOk Go.Proofs.Tryz.prog (44, f44) := ⟨Go.Proofs.Tryz.f44, Go.Proofs.Tryz.func44, by kernel_rfl, Go.Proofs.Tryz.call44⟩
def f45 : IFunc := ⟨1, [.t p2], (.seq (.ops [⟨d2,.p (.mv k0),none⟩])
 (.seq (.seq (.ops [⟨d3,.p (.mv t0),none⟩,
⟨d4,.p (.eqp false t3 (.c .nilp)),none⟩])
 (.cond t4 (.seq (.ops [⟨d2,.p (.mv k0),none⟩])
 .ret)
 .skip))
 (.seq (.ops [⟨d5,.p (.mv t0),none⟩,
⟨d6,.p (.nilck t5),none⟩,
⟨d7,.p (.faddr 3 t6),none⟩,
⟨d8,.r (.ldS t7),none⟩,
⟨d2,.p (.mv t8),none⟩])
 .ret)))⟩
theorem c45 : Go.Ev.EntOk Go.Proofs.Tryz.prog (45, f45) := ⟨Go.Proofs.Tryz.f45, Go.Proofs.Tryz.func45, by kernel_rfl, Go.Proofs.Tryz.call45⟩
def f46 : IFunc := ⟨5, [], (.seq (.ops [⟨d6,.a (.box 36 t1),none⟩,
⟨d8,.a (.box 77 t3),none⟩])
 (.seq (.reg [⟨[0],⟨d13,.p (.mv t0),none⟩,0,0⟩,
⟨[1],⟨d14,.p (.nilck t13),none⟩,0,0⟩,
⟨[2],⟨d15,.p (.faddr 1 t14),none⟩,0,0⟩,
⟨[3],⟨d16,.r (.ldS t15),none⟩,0,0⟩,
⟨[4],⟨d17,.p (.faddr 3 t8),none⟩,0,0⟩,
⟨[5],⟨d18,.r (.ldS t17),none⟩,0,0⟩,
⟨[6],⟨d19,.call p39 [t16,t18],none⟩,0,0⟩,
⟨[7],⟨d20,.r (.ldA 2 t6),none⟩,0,1⟩,
⟨[8],⟨d21,.call p42 [t19,t20],none⟩,1,1⟩])
 (.seq (.ops [⟨d10,.p (.mv (.c (.bool false))),none⟩])
 (.seq (.seq (.ops [⟨d22,.p (.mv t2),none⟩,
⟨d23,.p (.nilck t22),none⟩,
⟨d24,.p (.mv k0),none⟩])
 (.block 0 (.loop (.seq (.ops [⟨d25,.p (.bin .lss t24 k32),none⟩])
 (.seq (.cond t25 .skip
 (.exit 0))
 (.seq (.block 1 (.seq (.ops [⟨d26,.p (.nilck t22),none⟩,
⟨d27,.p (.iaddrA 32 6 t26 t24),none⟩,
⟨d28,.r (.ldA 6 t27),none⟩,
⟨d12,.a (.alloc 77 [(.int .i64 (.ofNat 0)),(.int .i64 (.ofNat 0)),(.int .i64 (.ofNat 0)),(.int .i64 (.ofNat 0)),(.bool false),(.int .i64 (.ofNat 0))]),none⟩,
⟨none,.w (.st 6 t12 t28),none⟩])
 (.seq (.ops [⟨d29,.p (.faddr 1 t12),none⟩,
⟨d30,.r (.ldS t29),none⟩,
⟨d31,.p (.faddr 0 t8),none⟩,
⟨d32,.r (.ldS t31),none⟩,
⟨d33,.p (.bin .eql t30 t32),none⟩,
⟨d34,.p (.mv t33),none⟩,
⟨d35,.p (.faddr 0 t12),(some (p34, true))⟩,
⟨d36,.r (.ldS t35),(some (p34, true))⟩,
⟨d37,.p (.faddr 0 t8),(some (p34, true))⟩,
⟨d38,.r (.ldS t37),(some (p34, true))⟩,
⟨d39,.p (.bin .neq t36 t38),(some (p34, true))⟩,
⟨d40,.p (.pick t34 t39 (.c (.bool false))),none⟩])
 (.cond t40 (.seq (.ops [⟨d41,.p (.mv t10),none⟩,
⟨d42,.p (.mv t41),none⟩,
⟨d43,.p (.faddr 4 t12),(some (p42, false))⟩,
⟨d44,.r (.ldS t43),(some (p42, false))⟩,
⟨d45,.p (.pick t42 (.c (.bool true)) t44),none⟩,
⟨d10,.p (.mv t45),none⟩])
 (.seq (.ops [⟨d46,.p (.faddr 1 t12),none⟩,
⟨none,.w (.st 1 t46 k1),none⟩])
 (.ops [⟨d47,.p (.mv t0),none⟩,
⟨d48,.r (.ldA 2 t6),none⟩,
⟨d49,.r (.ldA 6 t12),none⟩,
⟨d50,.call p44 [t47,t48,t49],none⟩])))
 .skip))))
 (.ops [⟨d51,.p (.bin .add t24 k1),none⟩,
⟨d24,.p (.mv t51),none⟩])))))))
 (.seq (.ops [⟨d52,.p (.mv t4),none⟩,
⟨d53,.p (.faddr 4 t8),none⟩,
⟨none,.w (.st 1 t53 (.c (.bool true))),none⟩,
⟨d54,.p (.faddr 5 t8),none⟩,
⟨none,.w (.st 1 t54 t52),none⟩,
⟨d55,.p (.faddr 3 t8),none⟩,
⟨none,.w (.st 1 t55 k0),none⟩])
 (.seq (.ops [⟨d56,.p (.mv t0),none⟩,
⟨d57,.r (.ldA 2 t6),none⟩,
⟨d58,.r (.ldA 6 t8),none⟩,
⟨d59,.call p44 [t56,t57,t58],none⟩])
 (.seq (.ops [⟨d60,.p (.mv t0),none⟩,
⟨d61,.r (.ldA 2 t6),none⟩,
⟨d62,.p (.faddr 1 t8),none⟩,
⟨d63,.r (.ldS t62),none⟩,
⟨d64,.call p89 [t60,t61,t63],none⟩])
 (.seq (.ops [⟨d65,.p (.mv t10),none⟩])
 (.cond t65 (.ops [⟨d66,.p (.mv t0),none⟩,
⟨d67,.r (.ldA 2 t6),none⟩,
⟨d68,.call p89 [t66,t67,k1],none⟩])
 .skip)))))))))⟩
theorem c46 : Go.Ev.EntOk Go.Proofs.Tryz.prog (46, f46) := ⟨Go.Proofs.Tryz.f46, Go.Proofs.Tryz.func46, by kernel_rfl, Go.Proofs.Tryz.call46⟩
def f47 : IFunc := ⟨3, [.t p6], (.seq (.ops [⟨d4,.a (.box 36 t1),none⟩,
⟨d6,.p (.mv k0),none⟩])
 (.seq (.reg [⟨[6],⟨d16,.p (.mv t0),none⟩,0,0⟩,
⟨[7],⟨d17,.p (.mv t2),none⟩,0,0⟩,
⟨[8],⟨d18,.call p41 [t16,t17],none⟩,0,0⟩,
⟨[0],⟨d10,.p (.mv t0),none⟩,0,1⟩,
⟨[1],⟨d11,.p (.nilck t10),none⟩,0,1⟩,
⟨[2],⟨d12,.p (.faddr 0 t11),none⟩,0,1⟩,
⟨[3],⟨d13,.r (.ldS t12),none⟩,0,1⟩,
⟨[4],⟨d14,.p (.faddr 0 t4),none⟩,0,1⟩,
⟨[5],⟨d15,.r (.ldS t14),none⟩,0,1⟩,
⟨[9],⟨d19,.p (.build [(.int .i64 (.ofNat 0)),(.int .i64 (.ofNat 0)),(.int .i64 (.ofNat 0)),(.int .i64 (.ofNat 0)),(.int .i64 (.ofNat 0)),(.int .i64 (.ofNat 0)),(.int .i64 (.ofNat 0)),(.int .i64 (.ofNat 0)),(.int .i64 (.ofNat 0)),.nils,(.int .i64 (.ofNat 0)),.nils,(.str []),(.int .i64 (.ofNat 0)),(.int .i64 (.ofNat 0)),(.int .i64 (.ofNat 0)),(.int .i64 (.ofNat 0)),(.int .i64 (.ofNat 0)),(.bool false),(.bool false)] [(0, 1, k10),(1, 2, t18)]),none⟩,1,1⟩,
⟨[10],⟨d20,.call p17 [t13,t15,t19,k0],none⟩,1,1⟩,
⟨[11],⟨d9,.p (.mv t20),none⟩,2,2⟩,
⟨[12],⟨d21,.p (.ext t9 0),none⟩,2,2⟩,
⟨[14],⟨d7,.a (.alloc 52 [(.int .i64 (.ofNat 0)),(.str []),(.int .i64 (.ofNat 0)),.nils,(.int .i64 (.ofNat 0)),.nils,.nils,.nils]),none⟩,0,2⟩,
⟨[15],⟨none,.w (.st 8 t7 t21),none⟩,2,2⟩,
⟨[13],⟨d22,.p (.ext t9 1),none⟩,2,3⟩,
⟨[16],⟨d8,.p (.mv t22),none⟩,3,3⟩])
 (.seq (.ops [⟨d23,.p (.mv t8),none⟩,
⟨d24,.call p43 [t23],none⟩,
⟨d6,.p (.mv t24),none⟩])
 .ret)))⟩
theorem c47 : Go.Ev.EntOk Go.Proofs.Tryz.prog (47, f47) := ⟨Go.Proofs.Tryz.f47, Go.Proofs.Tryz.func47, by kernel_rfl, Go.Proofs.Tryz.call47⟩
def f48 : IFunc := ⟨2, [.t p4,.t p5], (.seq (.ops [⟨d4,.p (.mv (.c .nilp)),none⟩,
⟨d5,.p (.mv k0),none⟩])
 (.seq (.seq (.ops [⟨d8,.p (.mv t0),none⟩,
⟨d9,.p (.eqp false t8 (.c .nilp)),none⟩])
 (.cond t9 (.seq (.ops [⟨d4,.p (.mv (.c .nilp)),none⟩,
⟨d5,.p (.mv k4),none⟩])
 .ret)
 .skip))
 (.seq (.ops [⟨d11,.p (.mv t0),none⟩,
⟨d12,.p (.nilck t11),none⟩,
⟨d13,.p (.faddr 0 t12),none⟩,
⟨d14,.r (.ldS t13),none⟩,
⟨d15,.p (.mv t1),none⟩,
⟨d16,.call p57 [t14,t15],none⟩,
⟨d10,.p (.mv t16),none⟩,
⟨d17,.p (.ext t10 0),none⟩,
⟨d18,.p (.ext t10 1),none⟩,
⟨d6,.a (.alloc 62 [(.int .i64 (.ofNat 0)),(.int .i64 (.ofNat 0)),(.int .i64 (.ofNat 0)),(.int .i64 (.ofNat 0)),(.int .i64 (.ofNat 0)),(.int .i64 (.ofNat 0)),.nils]),none⟩,
⟨none,.w (.st 7 t6 t17),none⟩,
⟨d7,.p (.mv t18),none⟩])
 (.seq (.seq (.ops [⟨d19,.p (.mv t7),none⟩,
⟨d20,.p (.not t19),none⟩,
⟨d21,.p (.mv t20),none⟩,
⟨d22,.p (.faddr 1 t6),(some (p21, false))⟩,
⟨d23,.r (.ldS t22),(some (p21, false))⟩,
⟨d24,.p (.bin .neq t23 k4),(some (p21, false))⟩,
⟨d25,.p (.pick t21 (.c (.bool true)) t24),none⟩,
⟨d26,.p (.mv t25),none⟩,
⟨d27,.p (.mv t0),(some (p26, false))⟩,
⟨d28,.p (.nilck t27),(some (p26, false))⟩,
⟨d29,.p (.faddr 2 t28),(some (p26, false))⟩,
⟨d30,.r (.ldS t29),(some (p26, false))⟩,
⟨d31,.p (.mv t1),(some (p26, false))⟩,
⟨d32,.r (.look .nilp t30 t31 false),(some (p26, false))⟩,
⟨d33,.p (.nilck t32),(some (p26, false))⟩,
⟨d34,.p (.faddr 24 t33),(some (p26, false))⟩,
⟨d35,.r (.ldS t34),(some (p26, false))⟩,
⟨d36,.p (.bin .neq t35 k0),(some (p26, false))⟩,
⟨d37,.p (.pick t26 (.c (.bool true)) t36),none⟩])
 (.cond t37 (.seq (.ops [⟨d4,.p (.mv (.c .nilp)),none⟩,
⟨d5,.p (.mv k11),none⟩])
 .ret)
 .skip))
 (.seq (.reg [⟨[0],⟨d38,.p (.mv t0),none⟩,0,0⟩,
⟨[1],⟨d39,.p (.mv t1),none⟩,0,0⟩,
⟨[2],⟨d40,.p (.faddr 5 t6),none⟩,0,0⟩,
⟨[3],⟨d41,.r (.ldA 2 t40),none⟩,0,0⟩,
⟨[4],⟨d42,.p (.mv t0),none⟩,0,0⟩,
⟨[5],⟨d43,.p (.nilck t42),none⟩,0,0⟩,
⟨[6],⟨d44,.p (.faddr 2 t43),none⟩,0,0⟩,
⟨[7],⟨d45,.r (.ldS t44),none⟩,0,0⟩,
⟨[8],⟨d46,.p (.mv t1),none⟩,0,0⟩,
⟨[9],⟨d47,.r (.look .nilp t45 t46 false),none⟩,0,0⟩,
⟨[10],⟨d48,.p (.nilck t47),none⟩,0,0⟩,
⟨[11],⟨d49,.p (.faddr 2 t48),none⟩,0,0⟩,
⟨[12],⟨d50,.r (.ldA 2 t49),none⟩,0,0⟩,
⟨[13],⟨d51,.p (.build [.nilp,(.int .i64 (.ofNat 0)),(.int .i64 (.ofNat 0)),(.int .i64 (.ofNat 0)),(.int .i64 (.ofNat 0)),(.int .i64 (.ofNat 0)),(.int .i64 (.ofNat 0)),(.int .i64 (.ofNat 0)),(.int .i64 (.ofNat 0)),(.int .i64 (.ofNat 0)),.nils,(.int .i64 (.ofNat 0)),.nils,(.str []),(.int .i64 (.ofNat 0)),(.int .i64 (.ofNat 0)),(.int .i64 (.ofNat 0)),(.int .i64 (.ofNat 0)),(.int .i64 (.ofNat 0)),(.bool false),(.bool false),(.int .i64 (.ofNat 0)),(.int .i64 (.ofNat 0)),.nils,(.int .i64 (.ofNat 0)),.nils,(.int .i64 (.ofNat 0)),(.int .i64 (.ofNat 0)),(.str []),(.int .i64 (.ofNat 0)),.nils,(.int .i64 (.ofNat 0)),.nils,.nils,.nils] [(0, 1, t38),(21, 1, t39),(22, 2, t41),(24, 2, t50)]),none⟩,0,0⟩,
⟨[14],⟨d52,.a (.box 133 t51),none⟩,0,0⟩,
⟨[15],⟨d4,.p (.mv t52),none⟩,0,0⟩,
⟨[16],⟨d5,.p (.mv k0),none⟩,0,0⟩])
 .ret)))))⟩
theorem c48 : Go.Ev.EntOk Go.Proofs.Tryz.prog (48, f48) := ⟨Go.Proofs.Tryz.f48, Go.Proofs.Tryz.func48, by kernel_rfl, Go.Proofs.Tryz.call48⟩
def f49 : IFunc := ⟨1, [.t p2], (.seq (.ops [⟨d2,.p (.mv k0),none⟩])
 (.seq (.seq (.ops [⟨d8,.p (.mv t0),none⟩,
⟨d9,.p (.nilck t8),none⟩,
⟨d10,.p (.faddr 1 t9),none⟩,
⟨d11,.p (.faddr 0 t10),none⟩,
⟨d12,.r (.ldS t11),none⟩])
 (.block 0 (.seq (.ops [⟨d14,.p (.bin .eql t12 k1),none⟩,
⟨d13,.p (.mv t14),none⟩])
 (.cond t13 (.seq (.reg [⟨[0],⟨d16,.p (.mv t0),none⟩,0,0⟩,
⟨[1],⟨d17,.p (.nilck t16),none⟩,0,0⟩,
⟨[2],⟨d18,.p (.faddr 22 t17),none⟩,0,0⟩,
⟨[3],⟨d19,.r (.ldA 2 t18),none⟩,0,0⟩,
⟨[4],⟨d20,.p (.mv t0),none⟩,0,0⟩,
⟨[5],⟨d21,.p (.nilck t20),none⟩,0,0⟩,
⟨[6],⟨d22,.p (.faddr 24 t21),none⟩,0,0⟩,
⟨[7],⟨d23,.r (.ldA 2 t22),none⟩,0,0⟩,
⟨[8],⟨d24,.p (.mv t0),none⟩,0,0⟩,
⟨[9],⟨d25,.p (.nilck t24),none⟩,0,0⟩,
⟨[10],⟨d26,.p (.faddr 26 t25),none⟩,0,0⟩,
⟨[11],⟨d27,.r (.ldS t26),none⟩,0,0⟩,
⟨[12],⟨d28,.call p90 [t19,t23,t27],none⟩,0,0⟩,
⟨[13],⟨d15,.p (.mv t28),none⟩,1,1⟩,
⟨[14],⟨d29,.p (.ext t15 0),none⟩,1,1⟩,
⟨[17],⟨d3,.a (.alloc 49 [(.int .i64 (.ofNat 0)),.nils]),none⟩,0,1⟩,
⟨[18],⟨d4,.a (.alloc 49 [(.int .i64 (.ofNat 0)),.nils]),none⟩,0,1⟩,
⟨[19],⟨none,.w (.st 2 t3 t29),none⟩,1,1⟩,
⟨[15],⟨d30,.p (.ext t15 1),none⟩,1,2⟩,
⟨[20],⟨none,.w (.st 2 t4 t30),none⟩,2,2⟩,
⟨[16],⟨d31,.p (.ext t15 2),none⟩,1,3⟩,
⟨[21],⟨d5,.p (.mv t31),none⟩,3,3⟩])
 (.seq (.block 1 (.seq (.ops [⟨d33,.p (.mv t5),none⟩,
⟨d34,.p (.bin .eql t33 k1),none⟩,
⟨d32,.p (.mv t34),none⟩])
 (.cond t32 (.seq (.ops [⟨d35,.p (.mv t5),none⟩,
⟨d2,.p (.mv t35),none⟩])
 .ret)
 (.seq (.reg [⟨[0],⟨d37,.p (.mv t0),none⟩,0,0⟩,
⟨[1],⟨d38,.p (.nilck t37),none⟩,0,0⟩,
⟨[2],⟨d39,.p (.faddr 0 t38),none⟩,0,0⟩,
⟨[3],⟨d40,.r (.ldS t39),none⟩,0,0⟩,
⟨[4],⟨d41,.p (.nilck t40),none⟩,0,0⟩,
⟨[5],⟨d42,.p (.faddr 3 t41),none⟩,0,0⟩,
⟨[6],⟨d43,.r (.ldS t42),none⟩,0,0⟩,
⟨[7],⟨d44,.p (.mv t0),none⟩,0,0⟩,
⟨[8],⟨d45,.p (.nilck t44),none⟩,0,0⟩,
⟨[9],⟨d46,.p (.faddr 26 t45),none⟩,0,0⟩,
⟨[10],⟨d47,.r (.ldS t46),none⟩,0,0⟩,
⟨[11],⟨d48,.r (.look (.bool false) t43 t47 false),none⟩,0,0⟩,
⟨[12],⟨d36,.p (.mv t48),none⟩,0,0⟩])
 (.cond t36 (.seq (.ops [⟨d2,.p (.mv k8),none⟩])
 .ret)
 (.seq (.ops [⟨d50,.p (.mv t5),none⟩,
⟨d51,.p (.bin .neq t50 k0),none⟩,
⟨d49,.p (.mv t51),none⟩])
 (.cond t49 (.seq (.ops [⟨d52,.p (.mv t5),none⟩,
⟨d2,.p (.mv t52),none⟩])
 .ret)
 .skip)))))))
 (.seq (.ops [⟨d53,.p (.mv t0),none⟩,
⟨d54,.r (.ldA 2 t3),none⟩,
⟨d55,.call p91 [t53,t54],none⟩])
 (.seq (.reg [⟨[0],⟨d56,.p (.mv t0),none⟩,0,0⟩,
⟨[1],⟨d57,.call p92 [t56],none⟩,0,0⟩,
⟨[2],⟨d58,.r (.ldA 2 t4),none⟩,0,1⟩,
⟨[3],⟨d59,.p (.nilck t57),none⟩,1,1⟩,
⟨[4],⟨d60,.p (.faddr 2 t59),none⟩,1,1⟩,
⟨[5],⟨none,.w (.st 2 t60 t58),none⟩,1,1⟩])
 (.seq (.reg [⟨[0],⟨d61,.p (.mv t0),none⟩,0,0⟩,
⟨[1],⟨d62,.p (.nilck t61),none⟩,0,0⟩,
⟨[2],⟨d63,.p (.faddr 0 t62),none⟩,0,0⟩,
⟨[3],⟨d64,.r (.ldS t63),none⟩,0,0⟩,
⟨[4],⟨d65,.p (.nilck t64),none⟩,0,0⟩,
⟨[5],⟨d66,.p (.faddr 3 t65),none⟩,0,0⟩,
⟨[6],⟨d67,.r (.ldS t66),none⟩,0,0⟩,
⟨[7],⟨d68,.p (.mv t0),none⟩,0,0⟩,
⟨[8],⟨d69,.p (.nilck t68),none⟩,0,0⟩,
⟨[9],⟨d70,.p (.faddr 26 t69),none⟩,0,0⟩,
⟨[10],⟨d71,.r (.ldS t70),none⟩,0,0⟩,
⟨[11],⟨none,.w (.mupd t67 t71 (.c (.bool true))),none⟩,0,0⟩])
 (.ops [⟨d72,.p (.mv t0),none⟩,
⟨d73,.p (.mv t0),none⟩,
⟨d74,.p (.nilck t73),none⟩,
⟨d75,.p (.faddr 26 t74),none⟩,
⟨d76,.r (.ldS t75),none⟩,
⟨d77,.p (.nilck t72),none⟩,
⟨d78,.p (.faddr 27 t77),none⟩,
⟨d79,.p (.faddr 0 t78),none⟩,
⟨none,.w (.st 1 t79 t76),none⟩]))))))
 (.seq (.ops [⟨d81,.p (.bin .eql t12 k2),none⟩,
⟨d80,.p (.mv t81),none⟩])
 (.cond t80 (.seq (.seq (.ops [⟨d82,.p (.mv t0),none⟩,
⟨d83,.p (.nilck t82),none⟩,
⟨d84,.p (.faddr 1 t83),none⟩,
⟨d85,.p (.faddr 8 t84),none⟩,
⟨d86,.r (.ldA 2 t85),none⟩,
⟨d87,.a (.bslice 49 2 1 [(.int .i64 (.ofNat 0)),.nils] [(0, 2, t86)]),none⟩,
⟨d88,.call p93 [t87],none⟩,
⟨d89,.p (.not t88),none⟩])
 (.cond t89 (.seq (.ops [⟨d2,.p (.mv k1),none⟩])
 .ret)
 .skip))
 (.seq (.seq (.reg [⟨[0],⟨d90,.p (.mv t0),none⟩,0,0⟩,
⟨[1],⟨d91,.p (.nilck t90),none⟩,0,0⟩,
⟨[2],⟨d92,.p (.faddr 22 t91),none⟩,0,0⟩,
⟨[3],⟨d93,.r (.ldA 2 t92),none⟩,0,0⟩,
⟨[4],⟨d94,.p (.mv t0),none⟩,0,0⟩,
⟨[5],⟨d95,.p (.nilck t94),none⟩,0,0⟩,
⟨[6],⟨d96,.p (.faddr 24 t95),none⟩,0,0⟩,
⟨[7],⟨d97,.r (.ldA 2 t96),none⟩,0,0⟩,
⟨[8],⟨d98,.p (.mv t0),none⟩,0,0⟩,
⟨[9],⟨d99,.p (.nilck t98),none⟩,0,0⟩,
⟨[10],⟨d100,.p (.faddr 1 t99),none⟩,0,0⟩,
⟨[11],⟨d101,.p (.faddr 8 t100),none⟩,0,0⟩,
⟨[12],⟨d102,.r (.ldA 2 t101),none⟩,0,0⟩,
⟨[13],⟨d103,.call p94 [t93,t97,t102],none⟩,0,0⟩,
⟨[14],⟨d6,.p (.mv t103),none⟩,1,1⟩])
 (.seq (.ops [⟨d104,.p (.mv t6),none⟩,
⟨d105,.p (.bin .neq t104 k0),none⟩])
 (.cond t105 (.seq (.ops [⟨d106,.p (.mv t6),none⟩,
⟨d2,.p (.mv t106),none⟩])
 .ret)
 .skip)))
 (.ops [⟨d107,.p (.mv t0),none⟩,
⟨d108,.p (.mv t0),none⟩,
⟨d109,.p (.nilck t108),none⟩,
⟨d110,.p (.faddr 1 t109),none⟩,
⟨d111,.p (.faddr 8 t110),none⟩,
⟨d112,.r (.ldA 2 t111),none⟩,
⟨d113,.call p91 [t107,t112],none⟩])))
 (.seq (.ops [⟨d115,.p (.bin .eql t12 k3),none⟩,
⟨d114,.p (.mv t115),none⟩])
 (.cond t114 (.seq (.seq (.ops [⟨d116,.p (.mv t0),none⟩,
⟨d117,.p (.nilck t116),none⟩,
⟨d118,.p (.faddr 1 t117),none⟩,
⟨d119,.p (.faddr 10 t118),none⟩,
⟨d120,.r (.ldA 2 t119),none⟩,
⟨d121,.a (.bslice 49 2 1 [(.int .i64 (.ofNat 0)),.nils] [(0, 2, t120)]),none⟩,
⟨d122,.call p93 [t121],none⟩,
⟨d123,.p (.not t122),none⟩])
 (.cond t123 (.seq (.ops [⟨d2,.p (.mv k1),none⟩])
 .ret)
 .skip))
 (.seq (.seq (.reg [⟨[0],⟨d124,.p (.mv t0),none⟩,0,0⟩,
⟨[1],⟨d125,.p (.nilck t124),none⟩,0,0⟩,
⟨[2],⟨d126,.p (.faddr 22 t125),none⟩,0,0⟩,
⟨[3],⟨d127,.r (.ldA 2 t126),none⟩,0,0⟩,
⟨[4],⟨d128,.p (.mv t0),none⟩,0,0⟩,
⟨[5],⟨d129,.p (.nilck t128),none⟩,0,0⟩,
⟨[6],⟨d130,.p (.faddr 24 t129),none⟩,0,0⟩,
⟨[7],⟨d131,.r (.ldA 2 t130),none⟩,0,0⟩,
⟨[8],⟨d132,.p (.mv t0),none⟩,0,0⟩,
⟨[9],⟨d133,.p (.nilck t132),none⟩,0,0⟩,
⟨[10],⟨d134,.p (.faddr 1 t133),none⟩,0,0⟩,
⟨[11],⟨d135,.p (.faddr 10 t134),none⟩,0,0⟩,
⟨[12],⟨d136,.r (.ldA 2 t135),none⟩,0,0⟩,
⟨[13],⟨d137,.call p95 [t127,t131,t136],none⟩,0,0⟩,
⟨[14],⟨d7,.p (.mv t137),none⟩,1,1⟩])
 (.seq (.ops [⟨d138,.p (.mv t7),none⟩,
⟨d139,.p (.bin .neq t138 k0),none⟩])
 (.cond t139 (.seq (.ops [⟨d140,.p (.mv t7),none⟩,
⟨d2,.p (.mv t140),none⟩])
 .ret)
 .skip)))
 (.reg [⟨[0],⟨d141,.p (.mv t0),none⟩,0,0⟩,
⟨[1],⟨d142,.call p92 [t141],none⟩,0,0⟩,
⟨[2],⟨d143,.p (.mv t0),none⟩,0,1⟩,
⟨[3],⟨d144,.p (.nilck t143),none⟩,0,1⟩,
⟨[4],⟨d145,.p (.faddr 1 t144),none⟩,0,1⟩,
⟨[5],⟨d146,.p (.faddr 10 t145),none⟩,0,1⟩,
⟨[6],⟨d147,.r (.ldA 2 t146),none⟩,0,1⟩,
⟨[7],⟨d148,.call p59 [t147],none⟩,1,1⟩,
⟨[8],⟨d149,.p (.nilck t142),none⟩,2,2⟩,
⟨[9],⟨d150,.p (.faddr 2 t149),none⟩,2,2⟩,
⟨[10],⟨none,.w (.st 2 t150 t148),none⟩,2,2⟩])))
 (.seq (.ops [⟨d152,.p (.bin .eql t12 k31),none⟩,
⟨d151,.p (.mv t152),none⟩])
 (.cond t151 (.reg [⟨[5],⟨d158,.p (.mv t0),none⟩,0,0⟩,
⟨[6],⟨d159,.p (.nilck t158),none⟩,0,0⟩,
⟨[7],⟨d160,.p (.faddr 22 t159),none⟩,0,0⟩,
⟨[8],⟨d161,.r (.ldA 2 t160),none⟩,0,0⟩,
⟨[9],⟨d162,.call p59 [t161],none⟩,0,0⟩,
⟨[10],⟨d163,.p (.mv t0),none⟩,0,1⟩,
⟨[11],⟨d164,.p (.nilck t163),none⟩,0,1⟩,
⟨[12],⟨d165,.p (.faddr 24 t164),none⟩,0,1⟩,
⟨[13],⟨d166,.r (.ldA 2 t165),none⟩,0,1⟩,
⟨[14],⟨d167,.call p59 [t166],none⟩,1,1⟩,
⟨[0],⟨d153,.p (.mv t0),none⟩,0,2⟩,
⟨[1],⟨d154,.p (.mv t0),none⟩,0,2⟩,
⟨[2],⟨d155,.p (.nilck t154),none⟩,0,2⟩,
⟨[3],⟨d156,.p (.faddr 21 t155),none⟩,0,2⟩,
⟨[4],⟨d157,.r (.ldS t156),none⟩,0,2⟩,
⟨[15],⟨d168,.p (.build [(.int .i64 (.ofNat 0)),(.str []),(.int .i64 (.ofNat 0)),.nils,(.int .i64 (.ofNat 0)),.nils,.nils,.nils] [(0, 1, t157),(2, 2, t162),(4, 2, t167)]),none⟩,2,2⟩,
⟨[16],⟨d169,.p (.nilck t153),none⟩,2,2⟩,
⟨[17],⟨d170,.p (.faddr 27 t169),none⟩,2,2⟩,
⟨[18],⟨none,.w (.st 8 t170 t168),none⟩,2,2⟩])
 .skip))))))))))
 (.seq (.ops [⟨d2,.p (.mv k0),none⟩])
 .ret)))⟩
theorem c49 : Go.Ev.EntOk Go.Proofs.Tryz.prog (49, f49) := ⟨Go.Proofs.Tryz.f49, Go.Proofs.Tryz.func49, by kernel_rfl, Go.Proofs.Tryz.call49⟩
def f50 : IFunc := ⟨1, [.t p2], (.seq (.ops [⟨d2,.p (.mv k0),none⟩])
 (.seq (.ops [⟨d10,.p (.mv t0),none⟩,
⟨d11,.p (.nilck t10),none⟩,
⟨d12,.p (.faddr 1 t11),none⟩,
⟨d13,.p (.faddr 1 t12),none⟩,
⟨d14,.p (.faddr 0 t13),none⟩,
⟨d15,.r (.ldS t14),none⟩,
⟨d3,.p (.mv t15),none⟩])
 (.seq (.seq (.ops [⟨d16,.p (.mv t0),none⟩,
⟨d17,.p (.nilck t16),none⟩,
⟨d18,.p (.faddr 1 t17),none⟩,
⟨d19,.p (.faddr 0 t18),none⟩,
⟨d20,.r (.ldS t19),none⟩])
 (.block 0 (.seq (.ops [⟨d22,.p (.bin .eql t20 k4),none⟩,
⟨d21,.p (.mv t22),none⟩])
 (.cond t21 (.seq (.ops [⟨d23,.p (.mv t0),none⟩,
⟨d24,.p (.mv t3),none⟩,
⟨d25,.p (.build [.nilp,.nils,(.int .i64 (.ofNat 0)),.nils,(.int .i64 (.ofNat 0)),(.int .i64 (.ofNat 0)),(.int .u64 (.ofNat 0)),(.int .u64 (.ofNat 0)),(.int .u64 (.ofNat 0)),(.int .u64 (.ofNat 0)),(.int .u64 (.ofNat 0)),(.int .u64 (.ofNat 0)),(.int .u64 (.ofNat 0)),(.int .u64 (.ofNat 0)),(.int .u64 (.ofNat 0)),(.int .u64 (.ofNat 0)),(.int .u64 (.ofNat 0)),(.int .u64 (.ofNat 0)),(.int .u64 (.ofNat 0)),(.int .u64 (.ofNat 0)),(.int .u64 (.ofNat 0)),(.int .u64 (.ofNat 0)),(.int .u64 (.ofNat 0)),(.int .u64 (.ofNat 0)),(.int .i64 (.ofNat 0)),(.str []),(.str [])] []),none⟩,
⟨d26,.a (.box 147 t25),none⟩,
⟨d27,.call p96 [t23,t24,k1,t26,(.c .nils)],none⟩,
⟨d2,.p (.mv t27),none⟩])
 .ret)
 (.seq (.ops [⟨d29,.p (.bin .eql t20 k5),none⟩,
⟨d28,.p (.mv t29),none⟩])
 (.cond t28 (.seq (.ops [⟨d31,.p (.mv t0),none⟩,
⟨d32,.p (.nilck t31),none⟩,
⟨d33,.p (.faddr 1 t32),none⟩,
⟨d34,.p (.faddr 6 t33),none⟩,
⟨d35,.r (.ldS t34),none⟩,
⟨d36,.call p97 [t35],none⟩,
⟨d30,.p (.mv t36),none⟩,
⟨d37,.p (.ext t30 0),none⟩,
⟨d38,.p (.ext t30 1),none⟩,
⟨d4,.p (.mv t37),none⟩,
⟨d5,.p (.mv t38),none⟩])
 (.seq (.reg [⟨[5],⟨d44,.p (.mv t4),none⟩,0,0⟩,
⟨[6],⟨d45,.p (.eqp false t44 (.c .nilp)),none⟩,0,0⟩,
⟨[7],⟨d46,.call p98 [t45,k1],none⟩,0,0⟩,
⟨[8],⟨d47,.p (.mv t0),none⟩,0,1⟩,
⟨[9],⟨d48,.p (.nilck t47),none⟩,0,1⟩,
⟨[10],⟨d49,.p (.faddr 1 t48),none⟩,0,1⟩,
⟨[11],⟨d50,.p (.faddr 6 t49),none⟩,0,1⟩,
⟨[12],⟨d51,.r (.ldS t50),none⟩,0,1⟩,
⟨[13],⟨d52,.p (.mv t0),none⟩,0,1⟩,
⟨[14],⟨d53,.p (.nilck t52),none⟩,0,1⟩,
⟨[15],⟨d54,.p (.faddr 1 t53),none⟩,0,1⟩,
⟨[16],⟨d55,.p (.faddr 5 t54),none⟩,0,1⟩,
⟨[17],⟨d56,.r (.ldS t55),none⟩,0,1⟩,
⟨[18],⟨d57,.p (.bin .gtr t51 t56),none⟩,0,1⟩,
⟨[19],⟨d58,.call p98 [t57,k6],none⟩,1,1⟩,
⟨[0],⟨d39,.p (.mv t0),none⟩,0,2⟩,
⟨[1],⟨d40,.p (.mv t3),none⟩,0,2⟩,
⟨[2],⟨d41,.p (.mv t4),none⟩,0,2⟩,
⟨[3],⟨d42,.p (.build [.nilp,.nils,(.int .i64 (.ofNat 0)),.nils,(.int .i64 (.ofNat 0)),(.int .i64 (.ofNat 0)),(.int .u64 (.ofNat 0)),(.int .u64 (.ofNat 0)),(.int .u64 (.ofNat 0)),(.int .u64 (.ofNat 0)),(.int .u64 (.ofNat 0)),(.int .u64 (.ofNat 0)),(.int .u64 (.ofNat 0)),(.int .u64 (.ofNat 0)),(.int .u64 (.ofNat 0)),(.int .u64 (.ofNat 0)),(.int .u64 (.ofNat 0)),(.int .u64 (.ofNat 0)),(.int .u64 (.ofNat 0)),(.int .u64 (.ofNat 0)),(.int .u64 (.ofNat 0)),(.int .u64 (.ofNat 0)),(.int .u64 (.ofNat 0)),(.int .u64 (.ofNat 0)),(.int .i64 (.ofNat 0)),(.str []),(.str [])] [(0, 1, t41)]),none⟩,0,2⟩,
⟨[4],⟨d43,.a (.box 147 t42),none⟩,0,2⟩,
⟨[20],⟨d59,.a (.bslice 134 1 2 [.nilf,.nilf] [(0, 1, t46),(1, 1, t58)]),none⟩,2,2⟩,
⟨[21],⟨d60,.call p96 [t39,t40,k2,t43,t59],none⟩,2,2⟩,
⟨[22],⟨d2,.p (.mv t60),none⟩,3,3⟩])
 .ret))
 (.seq (.ops [⟨d62,.p (.bin .eql t20 k6),none⟩,
⟨d61,.p (.mv t62),none⟩])
 (.cond t61 (.seq (.ops [⟨d63,.p (.mv t0),none⟩,
⟨d64,.p (.mv t3),none⟩,
⟨d65,.p (.build [.nilp,.nils,(.int .i64 (.ofNat 0)),.nils,(.int .i64 (.ofNat 0)),(.int .i64 (.ofNat 0)),(.int .u64 (.ofNat 0)),(.int .u64 (.ofNat 0)),(.int .u64 (.ofNat 0)),(.int .u64 (.ofNat 0)),(.int .u64 (.ofNat 0)),(.int .u64 (.ofNat 0)),(.int .u64 (.ofNat 0)),(.int .u64 (.ofNat 0)),(.int .u64 (.ofNat 0)),(.int .u64 (.ofNat 0)),(.int .u64 (.ofNat 0)),(.int .u64 (.ofNat 0)),(.int .u64 (.ofNat 0)),(.int .u64 (.ofNat 0)),(.int .u64 (.ofNat 0)),(.int .u64 (.ofNat 0)),(.int .u64 (.ofNat 0)),(.int .u64 (.ofNat 0)),(.int .i64 (.ofNat 0)),(.str []),(.str [])] []),none⟩,
⟨d66,.a (.box 147 t65),none⟩,
⟨d67,.call p96 [t63,t64,k3,t66,(.c .nils)],none⟩,
⟨d2,.p (.mv t67),none⟩])
 .ret)
 (.seq (.ops [⟨d69,.p (.bin .eql t20 k7),none⟩,
⟨d68,.p (.mv t69),none⟩])
 (.cond t68 (.seq (.reg [⟨[0],⟨d70,.p (.mv t0),none⟩,0,0⟩,
⟨[1],⟨d71,.p (.nilck t70),none⟩,0,0⟩,
⟨[2],⟨d72,.p (.faddr 1 t71),none⟩,0,0⟩,
⟨[3],⟨d73,.p (.faddr 10 t72),none⟩,0,0⟩,
⟨[4],⟨d74,.r (.ldA 2 t73),none⟩,0,0⟩,
⟨[5],⟨d75,.call p59 [t74],none⟩,0,0⟩,
⟨[6],⟨d76,.p (.mv t0),none⟩,0,1⟩,
⟨[7],⟨d77,.p (.nilck t76),none⟩,0,1⟩,
⟨[8],⟨d78,.p (.faddr 1 t77),none⟩,0,1⟩,
⟨[9],⟨d79,.p (.faddr 3 t78),none⟩,0,1⟩,
⟨[10],⟨d80,.r (.ldA 2 t79),none⟩,0,1⟩,
⟨[11],⟨d81,.p (.mv t0),none⟩,0,1⟩,
⟨[12],⟨d82,.p (.nilck t81),none⟩,0,1⟩,
⟨[13],⟨d83,.p (.faddr 1 t82),none⟩,0,1⟩,
⟨[14],⟨d84,.p (.faddr 6 t83),none⟩,0,1⟩,
⟨[15],⟨d85,.r (.ldS t84),none⟩,0,1⟩,
⟨[16],⟨d86,.p (.conv .u64 t85),none⟩,0,1⟩,
⟨[17],⟨d87,.p (.build [(.int .u64 (.ofNat 0)),(.int .u64 (.ofNat 0)),(.int .u64 (.ofNat 0)),(.int .u64 (.ofNat 0)),(.int .u64 (.ofNat 0)),(.int .u64 (.ofNat 0)),(.int .u64 (.ofNat 0)),(.int .u64 (.ofNat 0)),(.int .u64 (.ofNat 0)),(.int .u64 (.ofNat 0)),(.int .u64 (.ofNat 0)),(.int .u64 (.ofNat 0)),(.int .u64 (.ofNat 0)),(.int .u64 (.ofNat 0)),(.int .u64 (.ofNat 0)),(.int .u64 (.ofNat 0)),(.int .u64 (.ofNat 0))] [(16, 1, t86)]),none⟩,0,1⟩,
⟨[18],⟨d88,.p (.build [.nilp,.nils,(.int .i64 (.ofNat 0)),.nils,(.int .i64 (.ofNat 0)),(.int .i64 (.ofNat 0)),(.int .u64 (.ofNat 0)),(.int .u64 (.ofNat 0)),(.int .u64 (.ofNat 0)),(.int .u64 (.ofNat 0)),(.int .u64 (.ofNat 0)),(.int .u64 (.ofNat 0)),(.int .u64 (.ofNat 0)),(.int .u64 (.ofNat 0)),(.int .u64 (.ofNat 0)),(.int .u64 (.ofNat 0)),(.int .u64 (.ofNat 0)),(.int .u64 (.ofNat 0)),(.int .u64 (.ofNat 0)),(.int .u64 (.ofNat 0)),(.int .u64 (.ofNat 0)),(.int .u64 (.ofNat 0)),(.int .u64 (.ofNat 0)),(.int .u64 (.ofNat 0)),(.int .i64 (.ofNat 0)),(.str []),(.str [])] [(2, 2, t75),(4, 2, t80),(6, 17, t87)]),none⟩,1,1⟩,
⟨[19],⟨d89,.a (.box 147 t88),none⟩,1,1⟩,
⟨[20],⟨d6,.p (.mv t89),none⟩,1,1⟩])
 (.seq (.reg [⟨[0],⟨d90,.p (.mv t6),none⟩,0,0⟩,
⟨[1],⟨d91,.p (.mv t0),none⟩,0,0⟩,
⟨[2],⟨d92,.p (.nilck t91),none⟩,0,0⟩,
⟨[3],⟨d93,.p (.faddr 1 t92),none⟩,0,0⟩,
⟨[4],⟨d94,.p (.faddr 7 t93),none⟩,0,0⟩,
⟨[5],⟨d95,.r (.ldS t94),none⟩,0,0⟩,
⟨[6],⟨d96,.p (.conv .u64 t95),none⟩,0,0⟩,
⟨[7],⟨d97,.p (.nilck t90),none⟩,0,0⟩,
⟨[8],⟨d98,.p (.faddr 6 t97),none⟩,0,0⟩,
⟨[9],⟨d99,.p (.faddr 0 t98),none⟩,0,0⟩,
⟨[10],⟨d100,.p (.iaddrA 16 1 t99 k1),none⟩,0,0⟩,
⟨[11],⟨none,.w (.st 1 t100 t96),none⟩,0,0⟩])
 (.seq (.ops [⟨d101,.p (.mv t0),none⟩,
⟨d102,.p (.mv t3),none⟩,
⟨d103,.p (.mv t6),none⟩,
⟨d104,.p (.mv t0),none⟩,
⟨d105,.p (.nilck t104),none⟩,
⟨d106,.p (.faddr 1 t105),none⟩,
⟨d107,.p (.faddr 6 t106),none⟩,
⟨d108,.r (.ldS t107),none⟩,
⟨d109,.p (.bin .lss t108 k0),none⟩,
⟨d110,.call p98 [t109,k1],none⟩,
⟨d111,.a (.bslice 134 1 1 [.nilf] [(0, 1, t110)]),none⟩,
⟨d112,.call p96 [t101,t102,k4,t103,t111],none⟩,
⟨d2,.p (.mv t112),none⟩])
 .ret)))
 (.seq (.ops [⟨d114,.p (.bin .eql t20 k8),none⟩,
⟨d113,.p (.mv t114),none⟩])
 (.cond t113 (.seq (.reg [⟨[2],⟨d117,.p (.mv t0),none⟩,0,0⟩,
⟨[3],⟨d118,.p (.nilck t117),none⟩,0,0⟩,
⟨[4],⟨d119,.p (.faddr 1 t118),none⟩,0,0⟩,
⟨[5],⟨d120,.p (.faddr 10 t119),none⟩,0,0⟩,
⟨[6],⟨d121,.r (.ldA 2 t120),none⟩,0,0⟩,
⟨[7],⟨d122,.call p59 [t121],none⟩,0,0⟩,
⟨[21],⟨d136,.p (.mv t0),none⟩,0,1⟩,
⟨[22],⟨d137,.p (.nilck t136),none⟩,0,1⟩,
⟨[23],⟨d138,.p (.faddr 1 t137),none⟩,0,1⟩,
⟨[24],⟨d139,.p (.faddr 6 t138),none⟩,0,1⟩,
⟨[25],⟨d140,.r (.ldS t139),none⟩,0,1⟩,
⟨[26],⟨d141,.p (.bin .lss t140 k0),none⟩,0,1⟩,
⟨[27],⟨d142,.call p98 [t141,k1],none⟩,1,1⟩,
⟨[0],⟨d115,.p (.mv t0),none⟩,0,2⟩,
⟨[1],⟨d116,.p (.mv t3),none⟩,0,2⟩,
⟨[8],⟨d123,.p (.mv t0),none⟩,0,2⟩,
⟨[9],⟨d124,.p (.nilck t123),none⟩,0,2⟩,
⟨[10],⟨d125,.p (.faddr 1 t124),none⟩,0,2⟩,
⟨[11],⟨d126,.p (.faddr 3 t125),none⟩,0,2⟩,
⟨[12],⟨d127,.r (.ldA 2 t126),none⟩,0,2⟩,
⟨[13],⟨d128,.p (.mv t0),none⟩,0,2⟩,
⟨[14],⟨d129,.p (.nilck t128),none⟩,0,2⟩,
⟨[15],⟨d130,.p (.faddr 1 t129),none⟩,0,2⟩,
⟨[16],⟨d131,.p (.faddr 6 t130),none⟩,0,2⟩,
⟨[17],⟨d132,.r (.ldS t131),none⟩,0,2⟩,
⟨[18],⟨d133,.p (.conv .u64 t132),none⟩,0,2⟩,
⟨[19],⟨d134,.p (.build [.nilp,.nils,(.int .i64 (.ofNat 0)),.nils,(.int .i64 (.ofNat 0)),(.int .i64 (.ofNat 0)),(.int .u64 (.ofNat 0)),(.int .u64 (.ofNat 0)),(.int .u64 (.ofNat 0)),(.int .u64 (.ofNat 0)),(.int .u64 (.ofNat 0)),(.int .u64 (.ofNat 0)),(.int .u64 (.ofNat 0)),(.int .u64 (.ofNat 0)),(.int .u64 (.ofNat 0)),(.int .u64 (.ofNat 0)),(.int .u64 (.ofNat 0)),(.int .u64 (.ofNat 0)),(.int .u64 (.ofNat 0)),(.int .u64 (.ofNat 0)),(.int .u64 (.ofNat 0)),(.int .u64 (.ofNat 0)),(.int .u64 (.ofNat 0)),(.int .u64 (.ofNat 0)),(.int .i64 (.ofNat 0)),(.str []),(.str [])] [(2, 2, t122),(4, 2, t127),(23, 1, t133)]),none⟩,1,2⟩,
⟨[20],⟨d135,.a (.box 147 t134),none⟩,1,2⟩,
⟨[28],⟨d143,.a (.bslice 134 1 1 [.nilf] [(0, 1, t142)]),none⟩,2,2⟩,
⟨[29],⟨d144,.call p96 [t115,t116,k5,t135,t143],none⟩,2,2⟩,
⟨[30],⟨d2,.p (.mv t144),none⟩,3,3⟩])
 .ret)
 .skip))))))))))))
 (.seq (.ops [⟨d146,.p (.mv t0),none⟩,
⟨d147,.p (.mv t0),none⟩,
⟨d148,.p (.nilck t147),none⟩,
⟨d149,.p (.faddr 1 t148),none⟩,
⟨d150,.p (.faddr 1 t149),none⟩,
⟨d151,.r (.ldA 2 t150),none⟩,
⟨d152,.p (.mv t0),none⟩,
⟨d153,.p (.mkfn p100 [t152] []),none⟩,
⟨d154,.call p99 [t146,t151,k2,t153],none⟩,
⟨d145,.p (.mv t154),none⟩,
⟨d155,.p (.ext t145 0),none⟩,
⟨d156,.p (.ext t145 1),none⟩,
⟨d157,.p (.ext t145 2),none⟩,
⟨d8,.a (.alloc 62 [(.int .i64 (.ofNat 0)),(.int .i64 (.ofNat 0)),(.int .i64 (.ofNat 0)),(.int .i64 (.ofNat 0)),(.int .i64 (.ofNat 0)),(.int .i64 (.ofNat 0)),.nils]),none⟩,
⟨d7,.p (.mv t155),none⟩,
⟨none,.w (.st 7 t8 t156),none⟩,
⟨d9,.p (.mv t157),none⟩])
 (.seq (.seq (.ops [⟨d158,.p (.mv t9),none⟩,
⟨d159,.p (.bin .neq t158 k0),none⟩])
 (.cond t159 (.seq (.ops [⟨d160,.p (.mv t9),none⟩,
⟨d2,.p (.mv t160),none⟩])
 .ret)
 .skip))
 (.seq (.reg [⟨[7],⟨d168,.p (.mv t7),none⟩,0,0⟩,
⟨[8],⟨d169,.p (.nilck t168),none⟩,0,0⟩,
⟨[9],⟨d170,.p (.faddr 0 t169),none⟩,0,0⟩,
⟨[10],⟨d171,.r (.ldS t170),none⟩,0,0⟩,
⟨[11],⟨d172,.call p101 [t171],none⟩,0,0⟩,
⟨[14],⟨d175,.p (.mv t7),none⟩,0,1⟩,
⟨[15],⟨d176,.p (.nilck t175),none⟩,0,1⟩,
⟨[16],⟨d177,.p (.faddr 0 t176),none⟩,0,1⟩,
⟨[17],⟨d178,.r (.ldS t177),none⟩,0,1⟩,
⟨[18],⟨d179,.call p63 [t178],none⟩,1,1⟩,
⟨[19],⟨d180,.p (.mv t0),none⟩,0,2⟩,
⟨[20],⟨d181,.p (.nilck t180),none⟩,0,2⟩,
⟨[21],⟨d182,.p (.faddr 1 t181),none⟩,0,2⟩,
⟨[22],⟨d183,.p (.faddr 5 t182),none⟩,0,2⟩,
⟨[23],⟨d184,.r (.ldS t183),none⟩,0,2⟩,
⟨[24],⟨d185,.p (.bin .gtr t179 t184),none⟩,2,2⟩,
⟨[25],⟨d186,.call p98 [t185,k6],none⟩,2,2⟩,
⟨[0],⟨d161,.p (.mv t0),none⟩,0,3⟩,
⟨[1],⟨d162,.p (.mv t0),none⟩,0,3⟩,
⟨[2],⟨d163,.p (.nilck t162),none⟩,0,3⟩,
⟨[3],⟨d164,.p (.faddr 1 t163),none⟩,0,3⟩,
⟨[4],⟨d165,.p (.faddr 3 t164),none⟩,0,3⟩,
⟨[5],⟨d166,.p (.faddr 0 t165),none⟩,0,3⟩,
⟨[6],⟨d167,.r (.ldS t166),none⟩,0,3⟩,
⟨[12],⟨d173,.p (.build [.nilp,.nils,(.int .i64 (.ofNat 0)),.nils,(.int .i64 (.ofNat 0)),(.int .i64 (.ofNat 0)),(.int .u64 (.ofNat 0)),(.int .u64 (.ofNat 0)),(.int .u64 (.ofNat 0)),(.int .u64 (.ofNat 0)),(.int .u64 (.ofNat 0)),(.int .u64 (.ofNat 0)),(.int .u64 (.ofNat 0)),(.int .u64 (.ofNat 0)),(.int .u64 (.ofNat 0)),(.int .u64 (.ofNat 0)),(.int .u64 (.ofNat 0)),(.int .u64 (.ofNat 0)),(.int .u64 (.ofNat 0)),(.int .u64 (.ofNat 0)),(.int .u64 (.ofNat 0)),(.int .u64 (.ofNat 0)),(.int .u64 (.ofNat 0)),(.int .u64 (.ofNat 0)),(.int .i64 (.ofNat 0)),(.str []),(.str [])] [(0, 1, t172)]),none⟩,1,3⟩,
⟨[13],⟨d174,.a (.box 147 t173),none⟩,1,3⟩,
⟨[26],⟨d187,.a (.bslice 134 1 1 [.nilf] [(0, 1, t186)]),none⟩,3,3⟩,
⟨[27],⟨d188,.call p96 [t161,t167,k2,t174,t187],none⟩,3,3⟩,
⟨[28],⟨d2,.p (.mv t188),none⟩,4,4⟩])
 .ret))))))⟩
theorem c50 : Go.Ev.EntOk Go.Proofs.Tryz.prog (50, f50) := ⟨Go.Proofs.Tryz.f50, Go.Proofs.Tryz.func50, by kernel_rfl, Go.Proofs.Tryz.call50⟩
def f51 : IFunc := ⟨1, [.t p2], (.seq (.ops [⟨d2,.p (.mv k0),none⟩])
 (.seq (.seq (.ops [⟨d14,.p (.mv t0),none⟩,
⟨d15,.p (.nilck t14),none⟩,
⟨d16,.p (.faddr 1 t15),none⟩,
⟨d17,.p (.faddr 0 t16),none⟩,
⟨d18,.r (.ldS t17),none⟩,
⟨d19,.p (.bin .eql t18 k12),none⟩])
 (.cond t19 (.seq (.ops [⟨d21,.p (.mv t0),none⟩,
⟨d22,.p (.mv t0),none⟩,
⟨d23,.p (.nilck t22),none⟩,
⟨d24,.p (.faddr 1 t23),none⟩,
⟨d25,.p (.faddr 1 t24),none⟩,
⟨d26,.p (.faddr 0 t25),none⟩,
⟨d27,.r (.ldS t26),none⟩,
⟨d28,.call p102 [t21,t27],none⟩,
⟨d20,.p (.mv t28),none⟩,
⟨d29,.p (.ext t20 0),none⟩,
⟨d30,.p (.ext t20 1),none⟩,
⟨d3,.a (.alloc 62 [(.int .i64 (.ofNat 0)),(.int .i64 (.ofNat 0)),(.int .i64 (.ofNat 0)),(.int .i64 (.ofNat 0)),(.int .i64 (.ofNat 0)),(.int .i64 (.ofNat 0)),.nils]),none⟩,
⟨none,.w (.st 7 t3 t29),none⟩,
⟨d4,.p (.mv t30),none⟩])
 (.seq (.seq (.ops [⟨d31,.p (.mv t4),none⟩,
⟨d32,.p (.bin .eql t31 k0),none⟩])
 (.cond t32 (.reg [⟨[1],⟨d35,.p (.mv t0),none⟩,0,0⟩,
⟨[2],⟨d36,.p (.nilck t35),none⟩,0,0⟩,
⟨[3],⟨d37,.p (.faddr 0 t36),none⟩,0,0⟩,
⟨[4],⟨d38,.r (.ldS t37),none⟩,0,0⟩,
⟨[5],⟨d39,.p (.nilck t38),none⟩,0,0⟩,
⟨[6],⟨d40,.p (.faddr 0 t39),none⟩,0,0⟩,
⟨[7],⟨d41,.r (.ldS t40),none⟩,0,0⟩,
⟨[8],⟨d42,.p (.mv t0),none⟩,0,0⟩,
⟨[9],⟨d43,.p (.nilck t42),none⟩,0,0⟩,
⟨[10],⟨d44,.p (.faddr 1 t43),none⟩,0,0⟩,
⟨[11],⟨d45,.p (.faddr 1 t44),none⟩,0,0⟩,
⟨[12],⟨d46,.p (.faddr 0 t45),none⟩,0,0⟩,
⟨[13],⟨d47,.r (.ldS t46),none⟩,0,0⟩,
⟨[14],⟨d48,.call p61 [t41,t47],none⟩,0,0⟩,
⟨[0],⟨d34,.p (.mv t0),none⟩,0,1⟩,
⟨[15],⟨d33,.p (.mv t48),none⟩,1,1⟩,
⟨[16],⟨d49,.p (.ext t33 0),none⟩,1,1⟩,
⟨[18],⟨d51,.p (.nilck t34),none⟩,1,1⟩,
⟨[19],⟨d52,.p (.faddr 27 t51),none⟩,1,1⟩,
⟨[20],⟨d53,.p (.faddr 6 t52),none⟩,1,1⟩,
⟨[21],⟨none,.w (.st 1 t53 t49),none⟩,1,1⟩,
⟨[17],⟨d50,.p (.ext t33 1),none⟩,1,2⟩])
 .skip))
 (.seq (.ops [⟨d54,.p (.mv t4),none⟩,
⟨d2,.p (.mv t54),none⟩])
 .ret)))
 .skip))
 (.seq (.ops [⟨d56,.p (.mv t0),none⟩,
⟨d57,.p (.mv t0),none⟩,
⟨d58,.p (.nilck t57),none⟩,
⟨d59,.p (.faddr 1 t58),none⟩,
⟨d60,.p (.faddr 1 t59),none⟩,
⟨d61,.r (.ldA 2 t60),none⟩,
⟨d62,.call p103 [t56,t61],none⟩,
⟨d55,.p (.mv t62),none⟩,
⟨d63,.p (.ext t55 0),none⟩,
⟨d64,.p (.ext t55 1),none⟩,
⟨d5,.a (.alloc 62 [(.int .i64 (.ofNat 0)),(.int .i64 (.ofNat 0)),(.int .i64 (.ofNat 0)),(.int .i64 (.ofNat 0)),(.int .i64 (.ofNat 0)),(.int .i64 (.ofNat 0)),.nils]),none⟩,
⟨none,.w (.st 7 t5 t63),none⟩,
⟨d6,.p (.mv t64),none⟩])
 (.seq (.seq (.ops [⟨d65,.p (.mv t6),none⟩,
⟨d66,.p (.bin .neq t65 k0),none⟩])
 (.cond t66 (.seq (.ops [⟨d67,.p (.mv t6),none⟩,
⟨d2,.p (.mv t67),none⟩])
 .ret)
 .skip))
 (.seq (.reg [⟨[0],⟨d69,.p (.mv t0),none⟩,0,0⟩,
⟨[1],⟨d70,.p (.nilck t69),none⟩,0,0⟩,
⟨[2],⟨d71,.p (.faddr 0 t70),none⟩,0,0⟩,
⟨[3],⟨d72,.r (.ldS t71),none⟩,0,0⟩,
⟨[4],⟨d73,.p (.nilck t72),none⟩,0,0⟩,
⟨[5],⟨d74,.p (.faddr 0 t73),none⟩,0,0⟩,
⟨[6],⟨d75,.r (.ldS t74),none⟩,0,0⟩,
⟨[7],⟨d76,.p (.mv t0),none⟩,0,0⟩,
⟨[8],⟨d77,.p (.nilck t76),none⟩,0,0⟩,
⟨[9],⟨d78,.p (.faddr 1 t77),none⟩,0,0⟩,
⟨[10],⟨d79,.p (.faddr 1 t78),none⟩,0,0⟩,
⟨[11],⟨d80,.p (.faddr 0 t79),none⟩,0,0⟩,
⟨[12],⟨d81,.r (.ldS t80),none⟩,0,0⟩,
⟨[13],⟨d82,.call p57 [t75,t81],none⟩,0,0⟩,
⟨[14],⟨d68,.p (.mv t82),none⟩,1,1⟩,
⟨[15],⟨d83,.p (.ext t68 0),none⟩,1,1⟩,
⟨[17],⟨d7,.a (.alloc 62 [(.int .i64 (.ofNat 0)),(.int .i64 (.ofNat 0)),(.int .i64 (.ofNat 0)),(.int .i64 (.ofNat 0)),(.int .i64 (.ofNat 0)),(.int .i64 (.ofNat 0)),.nils]),none⟩,0,1⟩,
⟨[18],⟨none,.w (.st 7 t7 t83),none⟩,1,1⟩,
⟨[16],⟨d84,.p (.ext t68 1),none⟩,1,2⟩,
⟨[19],⟨d8,.p (.mv t84),none⟩,2,2⟩])
 (.seq (.seq (.ops [⟨d85,.p (.mv t0),none⟩,
⟨d86,.p (.nilck t85),none⟩,
⟨d87,.p (.faddr 1 t86),none⟩,
⟨d88,.p (.faddr 0 t87),none⟩,
⟨d89,.r (.ldS t88),none⟩])
 (.block 0 (.seq (.ops [⟨d91,.p (.bin .eql t89 k13),none⟩,
⟨d90,.p (.mv t91),none⟩])
 (.cond t90 (.seq (.seq (.ops [⟨d92,.p (.mv t0),none⟩,
⟨d93,.p (.faddr 5 t5),none⟩,
⟨d94,.r (.ldA 2 t93),none⟩,
⟨d95,.call p100 [t92,t94],none⟩,
⟨d96,.p (.not t95),none⟩])
 (.cond t96 (.seq (.ops [⟨d2,.p (.mv k3),none⟩])
 .ret)
 .skip))
 (.reg [⟨[3],⟨d100,.p (.faddr 5 t5),none⟩,0,0⟩,
⟨[4],⟨d101,.r (.ldA 2 t100),none⟩,0,0⟩,
⟨[5],⟨d102,.call p59 [t101],none⟩,0,0⟩,
⟨[0],⟨d97,.p (.mv t0),none⟩,0,1⟩,
⟨[1],⟨d98,.p (.faddr 1 t5),none⟩,0,1⟩,
⟨[2],⟨d99,.r (.ldS t98),none⟩,0,1⟩,
⟨[6],⟨d103,.p (.faddr 2 t5),none⟩,0,1⟩,
⟨[7],⟨d104,.r (.ldS t103),none⟩,0,1⟩,
⟨[8],⟨d105,.a (.bslice 3 1 1 [(.int .i64 (.ofNat 0))] [(0, 1, t104)]),none⟩,0,1⟩,
⟨[9],⟨d106,.p (.build [(.int .i64 (.ofNat 0)),(.str []),(.int .i64 (.ofNat 0)),.nils,(.int .i64 (.ofNat 0)),.nils,.nils,.nils] [(0, 1, t99),(2, 2, t102),(6, 1, t105)]),none⟩,1,1⟩,
⟨[10],⟨d107,.p (.nilck t97),none⟩,1,1⟩,
⟨[11],⟨d108,.p (.faddr 27 t107),none⟩,1,1⟩,
⟨[12],⟨none,.w (.st 8 t108 t106),none⟩,1,1⟩]))
 (.seq (.ops [⟨d110,.p (.bin .eql t89 k9),none⟩,
⟨d109,.p (.mv t110),none⟩])
 (.cond t109 (.seq (.seq (.ops [⟨d111,.p (.mv t0),none⟩,
⟨d112,.p (.faddr 5 t5),none⟩,
⟨d113,.r (.ldA 2 t112),none⟩,
⟨d114,.call p104 [t111,t113],none⟩,
⟨d115,.p (.not t114),none⟩])
 (.cond t115 (.seq (.ops [⟨d2,.p (.mv k3),none⟩])
 .ret)
 .skip))
 (.seq (.ops [⟨d117,.p (.mv t0),none⟩,
⟨d118,.p (.mv t0),none⟩,
⟨d119,.p (.nilck t118),none⟩,
⟨d120,.p (.faddr 1 t119),none⟩,
⟨d121,.p (.faddr 3 t120),none⟩,
⟨d122,.p (.faddr 0 t121),none⟩,
⟨d123,.r (.ldS t122),none⟩,
⟨d124,.call p102 [t117,t123],none⟩,
⟨d116,.p (.mv t124),none⟩,
⟨d125,.p (.ext t116 0),none⟩,
⟨d126,.p (.ext t116 1),none⟩,
⟨d9,.a (.alloc 62 [(.int .i64 (.ofNat 0)),(.int .i64 (.ofNat 0)),(.int .i64 (.ofNat 0)),(.int .i64 (.ofNat 0)),(.int .i64 (.ofNat 0)),(.int .i64 (.ofNat 0)),.nils]),none⟩,
⟨none,.w (.st 7 t9 t125),none⟩,
⟨d10,.p (.mv t126),none⟩])
 (.seq (.seq (.ops [⟨d127,.p (.mv t10),none⟩,
⟨d128,.p (.bin .neq t127 k0),none⟩])
 (.cond t128 (.seq (.ops [⟨d129,.p (.mv t10),none⟩,
⟨d2,.p (.mv t129),none⟩])
 .ret)
 .skip))
 (.seq (.seq (.reg [⟨[0],⟨d130,.p (.mv t0),none⟩,0,0⟩,
⟨[1],⟨d131,.p (.nilck t130),none⟩,0,0⟩,
⟨[2],⟨d132,.p (.faddr 22 t131),none⟩,0,0⟩,
⟨[3],⟨d133,.r (.ldA 2 t132),none⟩,0,0⟩,
⟨[4],⟨d134,.p (.mv t0),none⟩,0,0⟩,
⟨[5],⟨d135,.p (.nilck t134),none⟩,0,0⟩,
⟨[6],⟨d136,.p (.faddr 24 t135),none⟩,0,0⟩,
⟨[7],⟨d137,.r (.ldA 2 t136),none⟩,0,0⟩,
⟨[8],⟨d138,.p (.faddr 5 t9),none⟩,0,0⟩,
⟨[9],⟨d139,.r (.ldA 2 t138),none⟩,0,0⟩,
⟨[10],⟨d140,.p (.faddr 5 t5),none⟩,0,0⟩,
⟨[11],⟨d141,.r (.ldA 2 t140),none⟩,0,0⟩,
⟨[12],⟨d142,.call p105 [t133,t137,t139,t141],none⟩,0,0⟩,
⟨[13],⟨d11,.p (.mv t142),none⟩,1,1⟩])
 (.seq (.ops [⟨d143,.p (.mv t11),none⟩,
⟨d144,.p (.bin .neq t143 k0),none⟩])
 (.cond t144 (.seq (.ops [⟨d145,.p (.mv t11),none⟩,
⟨d2,.p (.mv t145),none⟩])
 .ret)
 .skip)))
 (.seq (.reg [⟨[0],⟨d146,.p (.mv t0),none⟩,0,0⟩,
⟨[1],⟨d147,.p (.nilck t146),none⟩,0,0⟩,
⟨[2],⟨d148,.p (.faddr 0 t147),none⟩,0,0⟩,
⟨[3],⟨d149,.r (.ldS t148),none⟩,0,0⟩,
⟨[4],⟨d150,.p (.nilck t149),none⟩,0,0⟩,
⟨[5],⟨d151,.p (.faddr 0 t150),none⟩,0,0⟩,
⟨[6],⟨d152,.r (.ldS t151),none⟩,0,0⟩,
⟨[7],⟨d153,.p (.mv t0),none⟩,0,0⟩,
⟨[8],⟨d154,.p (.nilck t153),none⟩,0,0⟩,
⟨[9],⟨d155,.p (.faddr 1 t154),none⟩,0,0⟩,
⟨[10],⟨d156,.p (.faddr 3 t155),none⟩,0,0⟩,
⟨[11],⟨d157,.p (.faddr 0 t156),none⟩,0,0⟩,
⟨[12],⟨d158,.r (.ldS t157),none⟩,0,0⟩,
⟨[13],⟨d159,.p (.mv t0),none⟩,0,0⟩,
⟨[14],⟨d160,.p (.nilck t159),none⟩,0,0⟩,
⟨[15],⟨d161,.p (.faddr 1 t160),none⟩,0,0⟩,
⟨[16],⟨d162,.p (.faddr 1 t161),none⟩,0,0⟩,
⟨[17],⟨d163,.p (.faddr 1 t162),none⟩,0,0⟩,
⟨[18],⟨d164,.r (.ldS t163),none⟩,0,0⟩,
⟨[19],⟨d165,.call p106 [t152,t158,t164],none⟩,0,0⟩,
⟨[20],⟨d2,.p (.mv t165),none⟩,1,1⟩])
 .ret)))))
 (.seq (.ops [⟨d167,.p (.bin .eql t89 k10),none⟩,
⟨d166,.p (.mv t167),none⟩])
 (.cond t166 (.seq (.seq (.ops [⟨d168,.p (.mv t0),none⟩,
⟨d169,.p (.faddr 5 t7),none⟩,
⟨d170,.r (.ldA 2 t169),none⟩,
⟨d171,.call p104 [t168,t170],none⟩,
⟨d172,.p (.not t171),none⟩])
 (.cond t172 (.seq (.ops [⟨d2,.p (.mv k3),none⟩])
 .ret)
 .skip))
 (.seq (.reg [⟨[0],⟨d174,.p (.mv t0),none⟩,0,0⟩,
⟨[1],⟨d175,.p (.nilck t174),none⟩,0,0⟩,
⟨[2],⟨d176,.p (.faddr 0 t175),none⟩,0,0⟩,
⟨[3],⟨d177,.r (.ldS t176),none⟩,0,0⟩,
⟨[4],⟨d178,.p (.nilck t177),none⟩,0,0⟩,
⟨[5],⟨d179,.p (.faddr 0 t178),none⟩,0,0⟩,
⟨[6],⟨d180,.r (.ldS t179),none⟩,0,0⟩,
⟨[7],⟨d181,.p (.mv t0),none⟩,0,0⟩,
⟨[8],⟨d182,.p (.nilck t181),none⟩,0,0⟩,
⟨[9],⟨d183,.p (.faddr 1 t182),none⟩,0,0⟩,
⟨[10],⟨d184,.p (.faddr 1 t183),none⟩,0,0⟩,
⟨[11],⟨d185,.p (.faddr 0 t184),none⟩,0,0⟩,
⟨[12],⟨d186,.r (.ldS t185),none⟩,0,0⟩,
⟨[13],⟨d187,.p (.mv t0),none⟩,0,0⟩,
⟨[14],⟨d188,.p (.nilck t187),none⟩,0,0⟩,
⟨[15],⟨d189,.p (.faddr 1 t188),none⟩,0,0⟩,
⟨[16],⟨d190,.p (.faddr 1 t189),none⟩,0,0⟩,
⟨[17],⟨d191,.p (.faddr 1 t190),none⟩,0,0⟩,
⟨[18],⟨d192,.r (.ldS t191),none⟩,0,0⟩,
⟨[19],⟨d193,.call p107 [t180,t186,t192],none⟩,0,0⟩,
⟨[20],⟨d173,.p (.mv t193),none⟩,1,1⟩,
⟨[21],⟨d194,.p (.ext t173 0),none⟩,1,1⟩,
⟨[22],⟨d195,.p (.ext t173 1),none⟩,1,1⟩,
⟨[23],⟨d12,.p (.mv t194),none⟩,1,1⟩,
⟨[24],⟨d13,.p (.mv t195),none⟩,1,1⟩])
 (.seq (.ops [⟨d196,.p (.mv t0),none⟩,
⟨d197,.p (.nilck t196),none⟩,
⟨d198,.p (.faddr 0 t197),none⟩,
⟨d199,.r (.ldS t198),none⟩,
⟨d200,.p (.mv t12),none⟩,
⟨d201,.call p108 [t199,t200],none⟩])
 (.seq (.ops [⟨d202,.p (.mv t13),none⟩,
⟨d2,.p (.mv t202),none⟩])
 .ret))))
 (.seq (.ops [⟨d204,.p (.bin .eql t89 k11),none⟩,
⟨d203,.p (.mv t204),none⟩])
 (.cond t203 (.seq (.seq (.ops [⟨d205,.p (.mv t0),none⟩,
⟨d206,.p (.faddr 5 t7),none⟩,
⟨d207,.r (.ldA 2 t206),none⟩,
⟨d208,.call p104 [t205,t207],none⟩,
⟨d209,.p (.not t208),none⟩,
⟨d210,.p (.mv t209),none⟩,
⟨d211,.p (.mv t0),(some (p210, false))⟩,
⟨d212,.p (.faddr 5 t5),(some (p210, false))⟩,
⟨d213,.r (.ldA 2 t212),(some (p210, false))⟩,
⟨d214,.call p104 [t211,t213],(some (p210, false))⟩,
⟨d215,.p (.not t214),(some (p210, false))⟩,
⟨d216,.p (.pick t210 (.c (.bool true)) t215),none⟩])
 (.cond t216 (.seq (.ops [⟨d2,.p (.mv k3),none⟩])
 .ret)
 .skip))
 (.seq (.reg [⟨[0],⟨d217,.p (.mv t0),none⟩,0,0⟩,
⟨[1],⟨d218,.p (.nilck t217),none⟩,0,0⟩,
⟨[2],⟨d219,.p (.faddr 0 t218),none⟩,0,0⟩,
⟨[3],⟨d220,.r (.ldS t219),none⟩,0,0⟩,
⟨[4],⟨d221,.p (.nilck t220),none⟩,0,0⟩,
⟨[5],⟨d222,.p (.faddr 0 t221),none⟩,0,0⟩,
⟨[6],⟨d223,.r (.ldS t222),none⟩,0,0⟩,
⟨[7],⟨d224,.p (.mv t0),none⟩,0,0⟩,
⟨[8],⟨d225,.p (.nilck t224),none⟩,0,0⟩,
⟨[9],⟨d226,.p (.faddr 1 t225),none⟩,0,0⟩,
⟨[10],⟨d227,.p (.faddr 1 t226),none⟩,0,0⟩,
⟨[11],⟨d228,.p (.faddr 0 t227),none⟩,0,0⟩,
⟨[12],⟨d229,.r (.ldS t228),none⟩,0,0⟩,
⟨[13],⟨d230,.p (.mv t0),none⟩,0,0⟩,
⟨[14],⟨d231,.p (.nilck t230),none⟩,0,0⟩,
⟨[15],⟨d232,.p (.faddr 1 t231),none⟩,0,0⟩,
⟨[16],⟨d233,.p (.faddr 1 t232),none⟩,0,0⟩,
⟨[17],⟨d234,.p (.faddr 1 t233),none⟩,0,0⟩,
⟨[18],⟨d235,.r (.ldS t234),none⟩,0,0⟩,
⟨[19],⟨d236,.p (.mv t0),none⟩,0,0⟩,
⟨[20],⟨d237,.p (.nilck t236),none⟩,0,0⟩,
⟨[21],⟨d238,.p (.faddr 1 t237),none⟩,0,0⟩,
⟨[22],⟨d239,.p (.faddr 5 t238),none⟩,0,0⟩,
⟨[23],⟨d240,.r (.ldS t239),none⟩,0,0⟩,
⟨[24],⟨d241,.call p109 [t223,t229,t235,t240],none⟩,0,0⟩,
⟨[25],⟨d2,.p (.mv t241),none⟩,1,1⟩])
 .ret))
 .skip))))))))))
 (.seq (.ops [⟨d2,.p (.mv k0),none⟩])
 .ret)))))))⟩
theorem c51 : Go.Ev.EntOk Go.Proofs.Tryz.prog (51, f51) := ⟨Go.Proofs.Tryz.f51, Go.Proofs.Tryz.func51, by kernel_rfl, Go.Proofs.Tryz.call51⟩
def f52 : IFunc := ⟨1, [.t p2], (.seq (.ops [⟨d2,.p (.mv k0),none⟩])
 (.seq (.ops [⟨d9,.p (.mv t0),none⟩,
⟨d10,.p (.mkfn p100 [t9] []),none⟩,
⟨d3,.p (.mv t10),none⟩])
 (.seq (.seq (.ops [⟨d11,.p (.mv t0),none⟩,
⟨d12,.p (.nilck t11),none⟩,
⟨d13,.p (.faddr 1 t12),none⟩,
⟨d14,.p (.faddr 0 t13),none⟩,
⟨d15,.r (.ldS t14),none⟩,
⟨d16,.p (.bin .eql t15 k15),none⟩,
⟨d17,.p (.mv t16),none⟩,
⟨d18,.p (.mv t0),(some (p17, false))⟩,
⟨d19,.p (.nilck t18),(some (p17, false))⟩,
⟨d20,.p (.faddr 1 t19),(some (p17, false))⟩,
⟨d21,.p (.faddr 0 t20),(some (p17, false))⟩,
⟨d22,.r (.ldS t21),(some (p17, false))⟩,
⟨d23,.p (.bin .eql t22 k17),(some (p17, false))⟩,
⟨d24,.p (.pick t17 (.c (.bool true)) t23),none⟩,
⟨d25,.p (.mv t24),none⟩,
⟨d26,.p (.mv t0),(some (p25, false))⟩,
⟨d27,.p (.nilck t26),(some (p25, false))⟩,
⟨d28,.p (.faddr 1 t27),(some (p25, false))⟩,
⟨d29,.p (.faddr 0 t28),(some (p25, false))⟩,
⟨d30,.r (.ldS t29),(some (p25, false))⟩,
⟨d31,.p (.bin .eql t30 k23),(some (p25, false))⟩,
⟨d32,.p (.pick t25 (.c (.bool true)) t31),none⟩])
 (.cond t32 (.ops [⟨d33,.p (.mv t0),none⟩,
⟨d34,.p (.mkfn p104 [t33] []),none⟩,
⟨d3,.p (.mv t34),none⟩])
 .skip))
 (.seq (.ops [⟨d36,.p (.mv t0),none⟩,
⟨d37,.p (.mv t0),none⟩,
⟨d38,.p (.nilck t37),none⟩,
⟨d39,.p (.faddr 1 t38),none⟩,
⟨d40,.p (.faddr 1 t39),none⟩,
⟨d41,.r (.ldA 2 t40),none⟩,
⟨d42,.p (.mv t3),none⟩,
⟨d43,.call p99 [t36,t41,k2,t42],none⟩,
⟨d35,.p (.mv t43),none⟩,
⟨d44,.p (.ext t35 0),none⟩,
⟨d45,.p (.ext t35 1),none⟩,
⟨d46,.p (.ext t35 2),none⟩,
⟨d5,.a (.alloc 62 [(.int .i64 (.ofNat 0)),(.int .i64 (.ofNat 0)),(.int .i64 (.ofNat 0)),(.int .i64 (.ofNat 0)),(.int .i64 (.ofNat 0)),(.int .i64 (.ofNat 0)),.nils]),none⟩,
⟨d4,.p (.mv t44),none⟩,
⟨none,.w (.st 7 t5 t45),none⟩,
⟨d6,.p (.mv t46),none⟩])
 (.seq (.seq (.ops [⟨d47,.p (.mv t6),none⟩,
⟨d48,.p (.bin .neq t47 k0),none⟩])
 (.cond t48 (.seq (.ops [⟨d49,.p (.mv t6),none⟩,
⟨d2,.p (.mv t49),none⟩])
 .ret)
 .skip))
 (.seq (.seq (.ops [⟨d50,.p (.mv t0),none⟩,
⟨d51,.p (.nilck t50),none⟩,
⟨d52,.p (.faddr 1 t51),none⟩,
⟨d53,.p (.faddr 0 t52),none⟩,
⟨d54,.r (.ldS t53),none⟩])
 (.block 0 (.seq (.ops [⟨d56,.p (.bin .eql t54 k14),none⟩,
⟨d55,.p (.mv t56),none⟩])
 (.cond t55 (.reg [⟨[1],⟨d59,.p (.mv t4),none⟩,0,0⟩,
⟨[2],⟨d60,.p (.nilck t59),none⟩,0,0⟩,
⟨[3],⟨d61,.p (.faddr 0 t60),none⟩,0,0⟩,
⟨[4],⟨d62,.r (.ldS t61),none⟩,0,0⟩,
⟨[5],⟨d63,.p (.mv t0),none⟩,0,0⟩,
⟨[6],⟨d64,.p (.nilck t63),none⟩,0,0⟩,
⟨[7],⟨d65,.p (.faddr 1 t64),none⟩,0,0⟩,
⟨[8],⟨d66,.p (.faddr 5 t65),none⟩,0,0⟩,
⟨[9],⟨d67,.r (.ldS t66),none⟩,0,0⟩,
⟨[10],⟨d68,.p (.mv t0),none⟩,0,0⟩,
⟨[11],⟨d69,.p (.nilck t68),none⟩,0,0⟩,
⟨[12],⟨d70,.p (.faddr 1 t69),none⟩,0,0⟩,
⟨[13],⟨d71,.p (.faddr 6 t70),none⟩,0,0⟩,
⟨[14],⟨d72,.r (.ldS t71),none⟩,0,0⟩,
⟨[15],⟨d73,.call p62 [t62,t67,t72],none⟩,0,0⟩,
⟨[0],⟨d58,.p (.mv t0),none⟩,0,1⟩,
⟨[16],⟨d57,.p (.mv t73),none⟩,1,1⟩,
⟨[17],⟨d74,.p (.ext t57 0),none⟩,1,1⟩,
⟨[19],⟨d76,.p (.nilck t58),none⟩,1,1⟩,
⟨[20],⟨d77,.p (.faddr 27 t76),none⟩,1,1⟩,
⟨[21],⟨d78,.p (.faddr 1 t77),none⟩,1,1⟩,
⟨[22],⟨none,.w (.st 1 t78 t74),none⟩,1,1⟩,
⟨[18],⟨d75,.p (.ext t57 1),none⟩,1,2⟩,
⟨[23],⟨d6,.p (.mv t75),none⟩,2,2⟩])
 (.seq (.ops [⟨d80,.p (.bin .eql t54 k15),none⟩,
⟨d79,.p (.mv t80),none⟩])
 (.cond t79 (.reg [⟨[0],⟨d81,.p (.mv t4),none⟩,0,0⟩,
⟨[1],⟨d82,.p (.nilck t81),none⟩,0,0⟩,
⟨[2],⟨d83,.p (.faddr 0 t82),none⟩,0,0⟩,
⟨[3],⟨d84,.r (.ldS t83),none⟩,0,0⟩,
⟨[4],⟨d85,.p (.mv t0),none⟩,0,0⟩,
⟨[5],⟨d86,.p (.nilck t85),none⟩,0,0⟩,
⟨[6],⟨d87,.p (.faddr 1 t86),none⟩,0,0⟩,
⟨[7],⟨d88,.p (.faddr 5 t87),none⟩,0,0⟩,
⟨[8],⟨d89,.r (.ldS t88),none⟩,0,0⟩,
⟨[9],⟨d90,.p (.mv t0),none⟩,0,0⟩,
⟨[10],⟨d91,.p (.nilck t90),none⟩,0,0⟩,
⟨[11],⟨d92,.p (.faddr 1 t91),none⟩,0,0⟩,
⟨[12],⟨d93,.p (.faddr 12 t92),none⟩,0,0⟩,
⟨[13],⟨d94,.r (.ldS t93),none⟩,0,0⟩,
⟨[14],⟨d95,.a (.bslice 9 1 1 [(.str [])] [(0, 1, t94)]),none⟩,0,0⟩,
⟨[15],⟨d96,.call p110 [t84,t89,t95],none⟩,0,0⟩,
⟨[16],⟨d6,.p (.mv t96),none⟩,1,1⟩])
 (.seq (.ops [⟨d98,.p (.bin .eql t54 k16),none⟩,
⟨d97,.p (.mv t98),none⟩])
 (.cond t97 (.ops [⟨d99,.p (.mv t0),none⟩,
⟨d100,.p (.mv t4),none⟩,
⟨d101,.p (.nilck t100),none⟩,
⟨d102,.p (.faddr 0 t101),none⟩,
⟨d103,.r (.ldS t102),none⟩,
⟨d104,.call p63 [t103],none⟩,
⟨d105,.p (.nilck t99),none⟩,
⟨d106,.p (.faddr 27 t105),none⟩,
⟨d107,.p (.faddr 0 t106),none⟩,
⟨none,.w (.st 1 t107 t104),none⟩])
 (.seq (.ops [⟨d109,.p (.bin .eql t54 k17),none⟩,
⟨d108,.p (.mv t109),none⟩])
 (.cond t108 (.seq (.seq (.reg [⟨[0],⟨d110,.p (.mv t0),none⟩,0,0⟩,
⟨[1],⟨d111,.p (.nilck t110),none⟩,0,0⟩,
⟨[2],⟨d112,.p (.faddr 1 t111),none⟩,0,0⟩,
⟨[3],⟨d113,.p (.faddr 5 t112),none⟩,0,0⟩,
⟨[4],⟨d114,.r (.ldS t113),none⟩,0,0⟩,
⟨[5],⟨d115,.p (.bin .geq t114 k0),none⟩,0,0⟩,
⟨[6],⟨d116,.p (.mv t115),none⟩,0,0⟩,
⟨[7],⟨d117,.p (.mv t0),(some (p116, true))⟩,0,0⟩,
⟨[8],⟨d118,.p (.nilck t117),(some (p116, true))⟩,0,0⟩,
⟨[9],⟨d119,.p (.faddr 1 t118),(some (p116, true))⟩,0,0⟩,
⟨[10],⟨d120,.p (.faddr 5 t119),(some (p116, true))⟩,0,0⟩,
⟨[11],⟨d121,.r (.ldS t120),(some (p116, true))⟩,0,0⟩,
⟨[12],⟨d122,.p (.bin .leq t121 (.c (.int .i64 (.ofNat 4096)))),(some (p116, true))⟩,0,0⟩,
⟨[13],⟨d123,.p (.pick t116 t122 (.c (.bool false))),none⟩,0,0⟩,
⟨[14],⟨d124,.p (.mv t123),none⟩,0,0⟩,
⟨[15],⟨d125,.p (.mv t0),(some (p124, true))⟩,0,0⟩,
⟨[16],⟨d126,.p (.nilck t125),(some (p124, true))⟩,0,0⟩,
⟨[17],⟨d127,.p (.faddr 1 t126),(some (p124, true))⟩,0,0⟩,
⟨[18],⟨d128,.p (.faddr 5 t127),(some (p124, true))⟩,0,0⟩,
⟨[19],⟨d129,.r (.ldS t128),(some (p124, true))⟩,0,0⟩,
⟨[20],⟨d130,.p (.faddr 2 t5),(some (p124, true))⟩,0,0⟩,
⟨[21],⟨d131,.r (.ldS t130),(some (p124, true))⟩,0,0⟩,
⟨[22],⟨d132,.p (.bin .gtr t129 t131),(some (p124, true))⟩,0,0⟩,
⟨[23],⟨d133,.p (.pick t124 t132 (.c (.bool false))),none⟩,0,0⟩])
 (.cond t133 (.seq (.ops [⟨d2,.p (.mv k6),none⟩])
 .ret)
 .skip))
 (.reg [⟨[0],⟨d134,.p (.mv t4),none⟩,0,0⟩,
⟨[1],⟨d135,.p (.nilck t134),none⟩,0,0⟩,
⟨[2],⟨d136,.p (.faddr 0 t135),none⟩,0,0⟩,
⟨[3],⟨d137,.r (.ldS t136),none⟩,0,0⟩,
⟨[4],⟨d138,.p (.mv t0),none⟩,0,0⟩,
⟨[5],⟨d139,.p (.nilck t138),none⟩,0,0⟩,
⟨[6],⟨d140,.p (.faddr 1 t139),none⟩,0,0⟩,
⟨[7],⟨d141,.p (.faddr 5 t140),none⟩,0,0⟩,
⟨[8],⟨d142,.r (.ldS t141),none⟩,0,0⟩,
⟨[9],⟨d143,.call p111 [t137,t142],none⟩,0,0⟩,
⟨[10],⟨d6,.p (.mv t143),none⟩,1,1⟩]))
 (.seq (.seq (.ops [⟨d145,.p (.bin .eql t54 k22),none⟩,
⟨d144,.p (.mv t145),none⟩])
 (.cond t144 .skip
 (.ops [⟨d146,.p (.bin .eql t54 k23),none⟩,
⟨d144,.p (.mv t146),none⟩])))
 (.cond t144 (.seq (.reg [⟨[0],⟨d148,.p (.mv t4),none⟩,0,0⟩,
⟨[1],⟨d149,.p (.nilck t148),none⟩,0,0⟩,
⟨[2],⟨d150,.p (.faddr 0 t149),none⟩,0,0⟩,
⟨[3],⟨d151,.r (.ldS t150),none⟩,0,0⟩,
⟨[4],⟨d152,.p (.mv t0),none⟩,0,0⟩,
⟨[5],⟨d153,.p (.nilck t152),none⟩,0,0⟩,
⟨[6],⟨d154,.p (.faddr 1 t153),none⟩,0,0⟩,
⟨[7],⟨d155,.p (.faddr 5 t154),none⟩,0,0⟩,
⟨[8],⟨d156,.r (.ldS t155),none⟩,0,0⟩,
⟨[9],⟨d157,.call p112 [t151,t156],none⟩,0,0⟩,
⟨[10],⟨d147,.p (.mv t157),none⟩,1,1⟩,
⟨[11],⟨d158,.p (.ext t147 0),none⟩,1,1⟩,
⟨[12],⟨d159,.p (.ext t147 1),none⟩,1,1⟩,
⟨[13],⟨d7,.p (.mv t158),none⟩,1,1⟩,
⟨[14],⟨d8,.p (.mv t159),none⟩,1,1⟩])
 (.block 1 (.seq (.ops [⟨d190,.p (.mv t8),none⟩,
⟨d191,.p (.bin .neq t190 k0),none⟩,
⟨d189,.p (.mv t191),none⟩])
 (.cond t189 (.ops [⟨d192,.p (.mv t8),none⟩,
⟨d6,.p (.mv t192),none⟩])
 (.seq (.ops [⟨d194,.p (.mv t0),none⟩,
⟨d195,.p (.nilck t194),none⟩,
⟨d196,.p (.faddr 1 t195),none⟩,
⟨d197,.p (.faddr 0 t196),none⟩,
⟨d198,.r (.ldS t197),none⟩,
⟨d199,.p (.bin .eql t198 k23),none⟩,
⟨d193,.p (.mv t199),none⟩])
 (.cond t193 (.reg [⟨[4],⟨d204,.p (.mv t0),none⟩,0,0⟩,
⟨[5],⟨d205,.p (.nilck t204),none⟩,0,0⟩,
⟨[6],⟨d206,.p (.faddr 0 t205),none⟩,0,0⟩,
⟨[7],⟨d207,.r (.ldS t206),none⟩,0,0⟩,
⟨[8],⟨d208,.p (.nilck t207),none⟩,0,0⟩,
⟨[9],⟨d209,.p (.faddr 1 t208),none⟩,0,0⟩,
⟨[10],⟨d210,.r (.ldS t209),none⟩,0,0⟩,
⟨[11],⟨d211,.p (.mv t0),none⟩,0,0⟩,
⟨[12],⟨d212,.p (.nilck t211),none⟩,0,0⟩,
⟨[13],⟨d213,.p (.faddr 1 t212),none⟩,0,0⟩,
⟨[14],⟨d214,.p (.faddr 1 t213),none⟩,0,0⟩,
⟨[15],⟨d215,.p (.faddr 1 t214),none⟩,0,0⟩,
⟨[16],⟨d216,.r (.ldS t215),none⟩,0,0⟩,
⟨[17],⟨d217,.p (.mv t0),none⟩,0,0⟩,
⟨[18],⟨d218,.p (.nilck t217),none⟩,0,0⟩,
⟨[19],⟨d219,.p (.faddr 1 t218),none⟩,0,0⟩,
⟨[20],⟨d220,.p (.faddr 5 t219),none⟩,0,0⟩,
⟨[21],⟨d221,.r (.ldS t220),none⟩,0,0⟩,
⟨[22],⟨d222,.call p114 [t210,t216,t221],none⟩,0,0⟩,
⟨[0],⟨d200,.p (.mv t0),none⟩,0,1⟩,
⟨[1],⟨d201,.p (.nilck t200),none⟩,0,1⟩,
⟨[2],⟨d202,.p (.faddr 0 t201),none⟩,0,1⟩,
⟨[3],⟨d203,.r (.ldS t202),none⟩,0,1⟩,
⟨[23],⟨d223,.call p113 [t203,t222],none⟩,1,1⟩])
 (.seq (.ops [⟨d225,.p (.mv t7),none⟩,
⟨d226,.p (.mv t0),none⟩,
⟨d227,.p (.nilck t226),none⟩,
⟨d228,.p (.faddr 1 t227),none⟩,
⟨d229,.p (.faddr 6 t228),none⟩,
⟨d230,.r (.ldS t229),none⟩,
⟨d231,.p (.conv .u64 t230),none⟩,
⟨d232,.p (.bin .neq t225 t231),none⟩,
⟨d224,.p (.mv t232),none⟩])
 (.cond t224 (.ops [⟨d233,.p (.mv t0),none⟩,
⟨d234,.p (.nilck t233),none⟩,
⟨d235,.p (.faddr 27 t234),none⟩,
⟨d236,.p (.faddr 0 t235),none⟩,
⟨none,.w (.st 1 t236 k1),none⟩])
 (.seq (.reg [⟨[0],⟨d160,.p (.mv t0),none⟩,0,0⟩,
⟨[1],⟨d161,.p (.nilck t160),none⟩,0,0⟩,
⟨[2],⟨d162,.p (.faddr 0 t161),none⟩,0,0⟩,
⟨[3],⟨d163,.r (.ldS t162),none⟩,0,0⟩,
⟨[4],⟨d164,.p (.nilck t163),none⟩,0,0⟩,
⟨[5],⟨d165,.p (.faddr 1 t164),none⟩,0,0⟩,
⟨[6],⟨d166,.r (.ldS t165),none⟩,0,0⟩,
⟨[7],⟨d167,.p (.mv t0),none⟩,0,0⟩,
⟨[8],⟨d168,.p (.nilck t167),none⟩,0,0⟩,
⟨[9],⟨d169,.p (.faddr 21 t168),none⟩,0,0⟩,
⟨[10],⟨d170,.r (.ldS t169),none⟩,0,0⟩,
⟨[11],⟨d171,.p (.mv t0),none⟩,0,0⟩,
⟨[12],⟨d172,.p (.nilck t171),none⟩,0,0⟩,
⟨[13],⟨d173,.p (.faddr 1 t172),none⟩,0,0⟩,
⟨[14],⟨d174,.p (.faddr 1 t173),none⟩,0,0⟩,
⟨[15],⟨d175,.p (.faddr 1 t174),none⟩,0,0⟩,
⟨[16],⟨d176,.r (.ldS t175),none⟩,0,0⟩,
⟨[17],⟨d177,.p (.mv t0),none⟩,0,0⟩,
⟨[18],⟨d178,.p (.nilck t177),none⟩,0,0⟩,
⟨[19],⟨d179,.p (.faddr 1 t178),none⟩,0,0⟩,
⟨[20],⟨d180,.p (.faddr 5 t179),none⟩,0,0⟩,
⟨[21],⟨d181,.r (.ldS t180),none⟩,0,0⟩,
⟨[22],⟨d182,.call p115 [t166,t170,t176,t181],none⟩,0,0⟩,
⟨[23],⟨d6,.p (.mv t182),none⟩,1,1⟩])
 (.seq (.ops [⟨d183,.p (.mv t6),none⟩,
⟨d184,.p (.bin .eql t183 k0),none⟩])
 (.cond t184 (.ops [⟨d185,.p (.mv t0),none⟩,
⟨d186,.call p92 [t185],none⟩,
⟨d187,.p (.nilck t186),none⟩,
⟨d188,.p (.faddr 24 t187),none⟩,
⟨none,.w (.st 1 t188 k1),none⟩])
 .skip)))))))))))
 .skip))))))))))))
 (.seq (.ops [⟨d237,.p (.mv t6),none⟩,
⟨d2,.p (.mv t237),none⟩])
 .ret)))))))⟩
theorem c52 : Go.Ev.EntOk Go.Proofs.Tryz.prog (52, f52) := ⟨Go.Proofs.Tryz.f52, Go.Proofs.Tryz.func52, by kernel_rfl, Go.Proofs.Tryz.call52⟩
def f54 : IFunc := ⟨1, [.t p2], (.seq (.ops [⟨d2,.p (.mv k0),none⟩])
 (.seq (.seq (.ops [⟨d9,.p (.mv t0),none⟩,
⟨d10,.p (.nilck t9),none⟩,
⟨d11,.p (.faddr 1 t10),none⟩,
⟨d12,.p (.faddr 0 t11),none⟩,
⟨d13,.r (.ldS t12),none⟩])
 (.block 0 (.seq (.ops [⟨d15,.p (.bin .eql t13 k24),none⟩,
⟨d14,.p (.mv t15),none⟩])
 (.cond t14 (.seq (.ops [⟨d17,.p (.mv t0),none⟩,
⟨d18,.p (.mv t0),none⟩,
⟨d19,.p (.nilck t18),none⟩,
⟨d20,.p (.faddr 1 t19),none⟩,
⟨d21,.p (.faddr 1 t20),none⟩,
⟨d22,.r (.ldA 2 t21),none⟩,
⟨d23,.p (.mv t0),none⟩,
⟨d24,.p (.mkfn p104 [t23] []),none⟩,
⟨d25,.call p99 [t17,t22,k4,t24],none⟩,
⟨d16,.p (.mv t25),none⟩,
⟨d26,.p (.ext t16 0),none⟩,
⟨d27,.p (.ext t16 1),none⟩,
⟨d28,.p (.ext t16 2),none⟩,
⟨d4,.a (.alloc 62 [(.int .i64 (.ofNat 0)),(.int .i64 (.ofNat 0)),(.int .i64 (.ofNat 0)),(.int .i64 (.ofNat 0)),(.int .i64 (.ofNat 0)),(.int .i64 (.ofNat 0)),.nils]),none⟩,
⟨d3,.p (.mv t26),none⟩,
⟨none,.w (.st 7 t4 t27),none⟩,
⟨d5,.p (.mv t28),none⟩])
 (.seq (.seq (.ops [⟨d29,.p (.mv t5),none⟩,
⟨d30,.p (.bin .neq t29 k0),none⟩])
 (.cond t30 (.seq (.ops [⟨d31,.p (.mv t5),none⟩,
⟨d2,.p (.mv t31),none⟩])
 .ret)
 .skip))
 (.seq (.reg [⟨[0],⟨d33,.p (.mv t0),none⟩,0,0⟩,
⟨[1],⟨d34,.p (.nilck t33),none⟩,0,0⟩,
⟨[2],⟨d35,.p (.faddr 0 t34),none⟩,0,0⟩,
⟨[3],⟨d36,.r (.ldS t35),none⟩,0,0⟩,
⟨[4],⟨d37,.p (.nilck t36),none⟩,0,0⟩,
⟨[5],⟨d38,.p (.faddr 1 t37),none⟩,0,0⟩,
⟨[6],⟨d39,.r (.ldS t38),none⟩,0,0⟩,
⟨[7],⟨d40,.p (.mv t0),none⟩,0,0⟩,
⟨[8],⟨d41,.p (.nilck t40),none⟩,0,0⟩,
⟨[9],⟨d42,.p (.faddr 1 t41),none⟩,0,0⟩,
⟨[10],⟨d43,.p (.faddr 1 t42),none⟩,0,0⟩,
⟨[11],⟨d44,.p (.faddr 1 t43),none⟩,0,0⟩,
⟨[12],⟨d45,.r (.ldS t44),none⟩,0,0⟩,
⟨[13],⟨d46,.p (.mv t0),none⟩,0,0⟩,
⟨[14],⟨d47,.p (.nilck t46),none⟩,0,0⟩,
⟨[15],⟨d48,.p (.faddr 1 t47),none⟩,0,0⟩,
⟨[16],⟨d49,.p (.faddr 5 t48),none⟩,0,0⟩,
⟨[17],⟨d50,.r (.ldS t49),none⟩,0,0⟩,
⟨[18],⟨d51,.call p118 [t39,t45,t50],none⟩,0,0⟩,
⟨[19],⟨d32,.p (.mv t51),none⟩,1,1⟩,
⟨[20],⟨d52,.p (.ext t32 0),none⟩,1,1⟩,
⟨[21],⟨d53,.p (.ext t32 1),none⟩,1,1⟩,
⟨[22],⟨d6,.p (.mv t52),none⟩,1,1⟩,
⟨[23],⟨d5,.p (.mv t53),none⟩,1,1⟩])
 (.seq (.seq (.ops [⟨d54,.p (.mv t6),none⟩])
 (.cond t54 (.reg [⟨[0],⟨d55,.p (.mv t0),none⟩,0,0⟩,
⟨[1],⟨d56,.p (.nilck t55),none⟩,0,0⟩,
⟨[2],⟨d57,.p (.faddr 0 t56),none⟩,0,0⟩,
⟨[3],⟨d58,.r (.ldS t57),none⟩,0,0⟩,
⟨[4],⟨d59,.p (.mv t0),none⟩,0,0⟩,
⟨[5],⟨d60,.p (.nilck t59),none⟩,0,0⟩,
⟨[6],⟨d61,.p (.faddr 1 t60),none⟩,0,0⟩,
⟨[7],⟨d62,.p (.faddr 1 t61),none⟩,0,0⟩,
⟨[8],⟨d63,.p (.faddr 1 t62),none⟩,0,0⟩,
⟨[9],⟨d64,.r (.ldS t63),none⟩,0,0⟩,
⟨[10],⟨d65,.a (.bslice 3 1 1 [(.int .i64 (.ofNat 0))] [(0, 1, t64)]),none⟩,0,0⟩,
⟨[11],⟨d66,.call p113 [t58,t65],none⟩,0,0⟩])
 .skip))
 (.seq (.ops [⟨d67,.p (.mv t5),none⟩,
⟨d2,.p (.mv t67),none⟩])
 .ret)))))
 (.seq (.ops [⟨d69,.p (.bin .eql t13 k25),none⟩,
⟨d68,.p (.mv t69),none⟩])
 (.cond t68 (.seq (.reg [⟨[0],⟨d71,.p (.mv t0),none⟩,0,0⟩,
⟨[1],⟨d72,.p (.nilck t71),none⟩,0,0⟩,
⟨[2],⟨d73,.p (.faddr 0 t72),none⟩,0,0⟩,
⟨[3],⟨d74,.r (.ldS t73),none⟩,0,0⟩,
⟨[4],⟨d75,.p (.nilck t74),none⟩,0,0⟩,
⟨[5],⟨d76,.p (.faddr 1 t75),none⟩,0,0⟩,
⟨[6],⟨d77,.r (.ldS t76),none⟩,0,0⟩,
⟨[7],⟨d78,.p (.mv t0),none⟩,0,0⟩,
⟨[8],⟨d79,.p (.nilck t78),none⟩,0,0⟩,
⟨[9],⟨d80,.p (.faddr 21 t79),none⟩,0,0⟩,
⟨[10],⟨d81,.r (.ldS t80),none⟩,0,0⟩,
⟨[11],⟨d82,.call p119 [t77,t81],none⟩,0,0⟩,
⟨[12],⟨d70,.p (.mv t82),none⟩,1,1⟩,
⟨[13],⟨d83,.p (.ext t70 0),none⟩,1,1⟩,
⟨[14],⟨d84,.p (.ext t70 1),none⟩,1,1⟩,
⟨[15],⟨d7,.p (.mv t83),none⟩,1,1⟩,
⟨[16],⟨d8,.p (.mv t84),none⟩,1,1⟩])
 (.seq (.seq (.ops [⟨d85,.p (.mv t8),none⟩,
⟨d86,.p (.not t85),none⟩])
 (.cond t86 (.seq (.ops [⟨d2,.p (.mv k10),none⟩])
 .ret)
 .skip))
 (.ops [⟨d87,.p (.mv t0),none⟩,
⟨d88,.p (.mv t7),none⟩,
⟨d89,.p (.nilck t87),none⟩,
⟨d90,.p (.faddr 27 t89),none⟩,
⟨d91,.p (.faddr 0 t90),none⟩,
⟨none,.w (.st 1 t91 t88),none⟩])))
 (.seq (.ops [⟨d93,.p (.bin .eql t13 k26),none⟩,
⟨d92,.p (.mv t93),none⟩])
 (.cond t92 (.ops [⟨d94,.p (.mv t0),none⟩,
⟨d95,.call p92 [t94],none⟩,
⟨d96,.p (.nilck t95),none⟩,
⟨d97,.p (.faddr 24 t96),none⟩,
⟨none,.w (.st 1 t97 k2),none⟩])
 (.seq (.ops [⟨d99,.p (.bin .eql t13 k29),none⟩,
⟨d98,.p (.mv t99),none⟩])
 (.cond t98 (.ops [⟨d100,.p (.mv t0),none⟩,
⟨d101,.p (.mv t0),none⟩,
⟨d102,.p (.nilck t101),none⟩,
⟨d103,.p (.faddr 0 t102),none⟩,
⟨d104,.r (.ldS t103),none⟩,
⟨d105,.p (.nilck t104),none⟩,
⟨d106,.p (.faddr 4 t105),none⟩,
⟨d107,.r (.ldS t106),none⟩,
⟨d108,.p (.nilck t100),none⟩,
⟨d109,.p (.faddr 27 t108),none⟩,
⟨d110,.p (.faddr 0 t109),none⟩,
⟨none,.w (.st 1 t110 t107),none⟩])
 .skip))))))))))
 (.seq (.ops [⟨d2,.p (.mv k0),none⟩])
 .ret)))⟩
theorem c54 : Go.Ev.EntOk Go.Proofs.Tryz.prog (54, f54) := ⟨Go.Proofs.Tryz.f54, Go.Proofs.Tryz.func54, by kernel_rfl, Go.Proofs.Tryz.call54⟩
def f57 : IFunc := ⟨2, [.cA p4 7,.t p5], (.seq (.ops [⟨d4,.a (.alloc 62 [(.int .i64 (.ofNat 0)),(.int .i64 (.ofNat 0)),(.int .i64 (.ofNat 0)),(.int .i64 (.ofNat 0)),(.int .i64 (.ofNat 0)),(.int .i64 (.ofNat 0)),.nils]),none⟩,
⟨d5,.p (.mv (.c (.bool false))),none⟩])
 (.seq (.ops [⟨d8,.p (.mv t0),none⟩,
⟨d9,.p (.mv t1),none⟩,
⟨d10,.call p121 [t8,t9],none⟩,
⟨d6,.p (.mv t10),none⟩])
 (.seq (.seq (.ops [⟨d11,.p (.mv t6),none⟩,
⟨d12,.p (.eqp false t11 (.c .nilp)),none⟩])
 (.cond t12 (.seq (.ops [⟨d13,.p (.build [(.int .i64 (.ofNat 0)),(.int .i64 (.ofNat 0)),(.int .i64 (.ofNat 0)),(.int .i64 (.ofNat 0)),(.int .i64 (.ofNat 0)),(.int .i64 (.ofNat 0)),.nils] []),none⟩,
⟨none,.w (.st 7 t4 t13),none⟩,
⟨d5,.p (.mv (.c (.bool false))),none⟩])
 .ret)
 .skip))
 (.seq (.ops [⟨d14,.p (.mv t6),none⟩,
⟨d15,.p (.nilck t14),none⟩,
⟨d16,.p (.faddr 0 t15),none⟩,
⟨d17,.r (.ldA 7 t16),none⟩,
⟨d7,.a (.alloc 62 [(.int .i64 (.ofNat 0)),(.int .i64 (.ofNat 0)),(.int .i64 (.ofNat 0)),(.int .i64 (.ofNat 0)),(.int .i64 (.ofNat 0)),(.int .i64 (.ofNat 0)),.nils]),none⟩,
⟨none,.w (.st 7 t7 t17),none⟩])
 (.seq (.ops [⟨d18,.p (.faddr 5 t7),none⟩,
⟨d19,.r (.ldA 2 t18),none⟩,
⟨d20,.call p122 [t19],none⟩,
⟨d21,.p (.faddr 5 t7),none⟩,
⟨none,.w (.st 2 t21 t20),none⟩])
 (.seq (.ops [⟨d22,.r (.ldA 7 t7),none⟩,
⟨none,.w (.st 7 t4 t22),none⟩,
⟨d5,.p (.mv (.c (.bool true))),none⟩])
 .ret))))))⟩
theorem c57 : Go.Ev.EntOk Go.Proofs.Tryz.prog (57, f57) := ⟨Go.Proofs.Tryz.f57, Go.Proofs.Tryz.func57, by kernel_rfl, Go.Proofs.Tryz.call57⟩
def f58 : IFunc := ⟨1, [.t p2], (.seq (.ops [⟨d2,.p (.mv (.c .nils)),none⟩])
 (.seq (.seq (.ops [⟨d3,.p (.mv t0),none⟩,
⟨d4,.p (.eqs false t3 (.c .nils)),none⟩])
 (.cond t4 (.seq (.ops [⟨d2,.p (.mv (.c .nils)),none⟩])
 .ret)
 .skip))
 (.seq (.ops [⟨d5,.a (.bslice 58 7 0 [] []),none⟩,
⟨d6,.p (.mv t0),none⟩,
⟨d7,.w (.app 58 7 48 t5 t6),none⟩,
⟨d2,.p (.mv t7),none⟩])
 .ret)))⟩
theorem c58 : Go.Ev.EntOk Go.Proofs.Tryz.prog (58, f58) := ⟨Go.Proofs.Tryz.f58, Go.Proofs.Tryz.func58, by kernel_rfl, Go.Proofs.Tryz.call58⟩
def f59 : IFunc := ⟨1, [.cA p2 2], (.seq (.ops [⟨d1,.a (.box 49 t0),none⟩,
⟨d2,.a (.alloc 49 [(.int .i64 (.ofNat 0)),.nils]),none⟩])
 (.seq (.reg [⟨[2],⟨d5,.p (.faddr 1 t1),none⟩,0,0⟩,
⟨[3],⟨d6,.r (.ldS t5),none⟩,0,0⟩,
⟨[4],⟨d7,.call p123 [t6],none⟩,0,0⟩,
⟨[0],⟨d3,.p (.faddr 0 t1),none⟩,0,1⟩,
⟨[1],⟨d4,.r (.ldS t3),none⟩,0,1⟩,
⟨[5],⟨d8,.p (.build [(.int .i64 (.ofNat 0)),.nils] [(0, 1, t4),(1, 1, t7)]),none⟩,1,1⟩,
⟨[6],⟨none,.w (.st 2 t2 t8),none⟩,1,1⟩])
 .ret))⟩
theorem c59 : Go.Ev.EntOk Go.Proofs.Tryz.prog (59, f59) := ⟨Go.Proofs.Tryz.f59, Go.Proofs.Tryz.func59, by kernel_rfl, Go.Proofs.Tryz.call59⟩
def f60 : IFunc := ⟨2, [.t p4], (.seq (.ops [⟨d4,.p (.mv (.c .nils)),none⟩])
 (.seq (.seq (.ops [⟨d5,.p (.mv t0),none⟩,
⟨d6,.p (.eqp false t5 (.c .nilp)),none⟩])
 (.cond t6 (.seq (.ops [⟨d4,.p (.mv (.c .nils)),none⟩])
 .ret)
 .skip))
 (.seq (.ops [⟨d7,.p (.mv t0),none⟩,
⟨d8,.p (.nilck t7),none⟩,
⟨d9,.p (.faddr 2 t8),none⟩,
⟨d10,.r (.ldS t9),none⟩,
⟨d11,.p (.mv t1),none⟩,
⟨d12,.r (.look (.agg [.nils]) t10 t11 false),none⟩,
⟨d13,.p (.fieldS 0 t12),none⟩,
⟨d14,.call p124 [t13],none⟩,
⟨d4,.p (.mv t14),none⟩])
 .ret)))⟩
theorem c60 : Go.Ev.EntOk Go.Proofs.Tryz.prog (60, f60) := ⟨Go.Proofs.Tryz.f60, Go.Proofs.Tryz.func60, by kernel_rfl, Go.Proofs.Tryz.call60⟩
def f61 : IFunc := ⟨2, [.t p4,.t p5], (.seq (.ops [⟨d4,.p (.mv (.c .nils)),none⟩,
⟨d5,.p (.mv k0),none⟩])
 (.seq (.ops [⟨d9,.p (.mv t0),none⟩,
⟨d10,.p (.mv t1),none⟩,
⟨d11,.call p125 [t9,t10],none⟩,
⟨d8,.p (.mv t11),none⟩,
⟨d12,.p (.ext t8 0),none⟩,
⟨d13,.p (.ext t8 1),none⟩,
⟨d6,.p (.mv t12),none⟩,
⟨d7,.p (.mv t13),none⟩])
 (.seq (.seq (.ops [⟨d14,.p (.mv t7),none⟩,
⟨d15,.p (.bin .neq t14 k0),none⟩])
 (.cond t15 (.seq (.ops [⟨d16,.p (.mv t7),none⟩,
⟨d4,.p (.mv (.c .nils)),none⟩,
⟨d5,.p (.mv t16),none⟩])
 .ret)
 .skip))
 (.seq (.ops [⟨d17,.p (.mv t6),none⟩,
⟨d18,.p (.nilck t17),none⟩,
⟨d19,.p (.faddr 7 t18),none⟩,
⟨d20,.p (.faddr 0 t19),none⟩,
⟨d21,.r (.ldS t20),none⟩,
⟨d22,.call p124 [t21],none⟩,
⟨d4,.p (.mv t22),none⟩,
⟨d5,.p (.mv k0),none⟩])
 .ret))))⟩
theorem c61 : Go.Ev.EntOk Go.Proofs.Tryz.prog (61, f61) := ⟨Go.Proofs.Tryz.f61, Go.Proofs.Tryz.func61, by kernel_rfl, Go.Proofs.Tryz.call61⟩
def f62 : IFunc := ⟨3, [.t p6,.t p7], (.seq (.ops [⟨d3,.a (.box 145 t0),none⟩,
⟨d6,.p (.mv (.c (.str []))),none⟩,
⟨d7,.p (.mv k0),none⟩])
 (.seq (.seq (.ops [⟨d12,.r (.ldS t3),none⟩,
⟨d13,.p (.mv t1),none⟩,
⟨d14,.p (.mv t2),none⟩,
⟨d15,.call p126 [t12,t13,t14],none⟩,
⟨d8,.p (.mv t15),none⟩])
 (.seq (.ops [⟨d16,.p (.mv t8),none⟩,
⟨d17,.p (.bin .neq t16 k0),none⟩])
 (.cond t17 (.seq (.ops [⟨d18,.p (.mv t8),none⟩,
⟨d6,.p (.mv (.c (.str []))),none⟩,
⟨d7,.p (.mv t18),none⟩])
 .ret)
 .skip)))
 (.seq (.ops [⟨d9,.a (.alloc 259 [.nilp,.nils]),none⟩])
 (.seq (.seq (.ops [⟨d19,.p (.mv t1),none⟩,
⟨d20,.p (.mv t2),none⟩,
⟨d21,.call p127 [t19,t20],none⟩])
 (.block 0 (.rangef t21 [p22,p23] (.seq (.ops [⟨d10,.p (.mv t22),none⟩])
 (.ops [⟨d11,.a (.alloc 262 [(.int .i64 (.ofNat 0)),(.int .i64 (.ofNat 0))]),none⟩,
⟨none,.w (.st 2 t11 t23),none⟩]))
 (.block 1 (.reg [⟨[0],⟨d24,.r (.ldS t3),none⟩,0,0⟩,
⟨[1],⟨d25,.p (.nilck t24),none⟩,0,0⟩,
⟨[2],⟨d26,.p (.faddr 1 t25),none⟩,0,0⟩,
⟨[3],⟨d27,.r (.ldS t26),none⟩,0,0⟩,
⟨[4],⟨d28,.p (.mv t10),none⟩,0,0⟩,
⟨[5],⟨d29,.p (.iaddrS 1 t27 t28),none⟩,0,0⟩,
⟨[6],⟨d30,.r (.ldS t29),none⟩,0,0⟩,
⟨[7],⟨d31,.p (.nilck t30),none⟩,0,0⟩,
⟨[8],⟨d32,.p (.iaddrA 2 1 t11 k0),none⟩,0,0⟩,
⟨[9],⟨d33,.r (.ldS t32),none⟩,0,0⟩,
⟨[10],⟨d34,.p (.iaddrA 2 1 t11 k1),none⟩,0,0⟩,
⟨[11],⟨d35,.r (.ldS t34),none⟩,0,0⟩,
⟨[12],⟨d36,.p (.slArr 64 1 t31 (some t33) (some t35) none),none⟩,0,0⟩,
⟨[13],⟨d37,.call p128 [t9,t36],none⟩,0,0⟩])))))
 (.seq (.ops [⟨d38,.call p129 [t9],none⟩,
⟨d6,.p (.mv t38),none⟩,
⟨d7,.p (.mv k0),none⟩])
 .ret)))))⟩
theorem c62 : Go.Ev.EntOk Go.Proofs.Tryz.prog (62, f62) := ⟨Go.Proofs.Tryz.f62, Go.Proofs.Tryz.func62, by kernel_rfl, Go.Proofs.Tryz.call62⟩
def f63 : IFunc := ⟨1, [.t p2], (.seq (.ops [⟨d2,.p (.mv k0),none⟩])
 (.seq (.seq (.ops [⟨d3,.p (.mv t0),none⟩,
⟨d4,.p (.eqp false t3 (.c .nilp)),none⟩])
 (.cond t4 (.seq (.ops [⟨d2,.p (.mv k0),none⟩])
 .ret)
 .skip))
 (.seq (.ops [⟨d5,.p (.mv t0),none⟩,
⟨d6,.p (.nilck t5),none⟩,
⟨d7,.p (.faddr 0 t6),none⟩,
⟨d8,.r (.ldS t7),none⟩,
⟨d2,.p (.mv t8),none⟩])
 .ret)))⟩
theorem c63 : Go.Ev.EntOk Go.Proofs.Tryz.prog (63, f63) := ⟨Go.Proofs.Tryz.f63, Go.Proofs.Tryz.func63, by kernel_rfl, Go.Proofs.Tryz.call63⟩
def f64 : IFunc := ⟨2, [.t p4,.t p5,.t p6], (.seq (.ops [⟨d4,.p (.mv k0),none⟩,
⟨d5,.p (.mv k0),none⟩,
⟨d6,.p (.mv (.c (.bool false))),none⟩])
 (.seq (.seq (.ops [⟨d8,.p (.mv t0),none⟩,
⟨d9,.p (.eqp false t8 (.c .nilp)),none⟩])
 (.cond t9 (.seq (.ops [⟨d4,.p (.mv k0),none⟩,
⟨d5,.p (.mv k0),none⟩,
⟨d6,.p (.mv (.c (.bool false))),none⟩])
 .ret)
 .skip))
 (.seq (.ops [⟨d11,.p (.mv t0),none⟩,
⟨d12,.p (.nilck t11),none⟩,
⟨d13,.p (.faddr 1 t12),none⟩,
⟨d14,.r (.ldS t13),none⟩,
⟨d15,.p (.mv t1),none⟩,
⟨d16,.r (.look (.agg [(.int .i64 (.ofNat 0)),(.int .i64 (.ofNat 0)),(.int .i64 (.ofNat 0))]) t14 t15 true),none⟩,
⟨d10,.p (.mv t16),none⟩,
⟨d17,.p (.ext t10 0),none⟩,
⟨d18,.p (.ext t10 1),none⟩,
⟨d7,.a (.alloc 275 [(.int .i64 (.ofNat 0)),(.int .i64 (.ofNat 0)),(.int .i64 (.ofNat 0))]),none⟩,
⟨none,.w (.st 3 t7 t17),none⟩,
⟨d6,.p (.mv t18),none⟩])
 (.seq (.reg [⟨[0],⟨d19,.p (.faddr 0 t7),none⟩,0,0⟩,
⟨[1],⟨d20,.p (.faddr 0 t19),none⟩,0,0⟩,
⟨[2],⟨d21,.r (.ldS t20),none⟩,0,0⟩,
⟨[3],⟨d22,.p (.faddr 0 t7),none⟩,0,0⟩,
⟨[4],⟨d23,.p (.faddr 1 t22),none⟩,0,0⟩,
⟨[5],⟨d24,.r (.ldS t23),none⟩,0,0⟩,
⟨[6],⟨d25,.p (.mv t6),none⟩,0,0⟩,
⟨[7],⟨d4,.p (.mv t21),none⟩,0,0⟩,
⟨[8],⟨d5,.p (.mv t24),none⟩,0,0⟩,
⟨[9],⟨d6,.p (.mv t25),none⟩,0,0⟩])
 .ret))))⟩
theorem c64 : Go.Ev.EntOk Go.Proofs.Tryz.prog (64, f64) := ⟨Go.Proofs.Tryz.f64, Go.Proofs.Tryz.func64, by kernel_rfl, Go.Proofs.Tryz.call64⟩
def f65 : IFunc := ⟨2, [.t p4,.t p5], (.seq (.ops [⟨d3,.a (.box 36 t1),none⟩,
⟨d4,.p (.mv (.c .nils)),none⟩,
⟨d5,.p (.mv k0),none⟩])
 (.seq (.seq (.ops [⟨d8,.p (.mv t0),none⟩,
⟨d9,.p (.eqp false t8 (.c .nilp)),none⟩])
 (.cond t9 (.seq (.ops [⟨d4,.p (.mv (.c .nils)),none⟩,
⟨d5,.p (.mv k4),none⟩])
 .ret)
 .skip))
 (.seq (.seq (.reg [⟨[0],⟨d11,.p (.mv t0),none⟩,0,0⟩,
⟨[1],⟨d12,.p (.nilck t11),none⟩,0,0⟩,
⟨[2],⟨d13,.p (.faddr 1 t12),none⟩,0,0⟩,
⟨[3],⟨d14,.r (.ldS t13),none⟩,0,0⟩,
⟨[4],⟨d15,.p (.faddr 0 t3),none⟩,0,0⟩,
⟨[5],⟨d16,.r (.ldS t15),none⟩,0,0⟩,
⟨[6],⟨d17,.p (.mv t0),none⟩,0,0⟩,
⟨[7],⟨d18,.p (.nilck t17),none⟩,0,0⟩,
⟨[8],⟨d19,.p (.faddr 2 t18),none⟩,0,0⟩,
⟨[9],⟨d20,.r (.ldS t19),none⟩,0,0⟩,
⟨[10],⟨d21,.p (.mv t0),none⟩,0,0⟩,
⟨[11],⟨d22,.p (.nilck t21),none⟩,0,0⟩,
⟨[12],⟨d23,.p (.faddr 3 t22),none⟩,0,0⟩,
⟨[13],⟨d24,.r (.ldS t23),none⟩,0,0⟩,
⟨[14],⟨d25,.p (.build [(.int .i64 (.ofNat 0)),(.int .i64 (.ofNat 0))] [(0, 1, t20),(1, 1, t24)]),none⟩,0,0⟩,
⟨[15],⟨d26,.p (.build [(.int .i64 (.ofNat 0)),(.int .i64 (.ofNat 0)),(.int .i64 (.ofNat 0)),(.int .i64 (.ofNat 0)),(.int .i64 (.ofNat 0)),(.int .i64 (.ofNat 0)),(.int .i64 (.ofNat 0)),(.int .i64 (.ofNat 0)),(.int .i64 (.ofNat 0)),.nils,(.int .i64 (.ofNat 0)),.nils,(.str []),(.int .i64 (.ofNat 0)),(.int .i64 (.ofNat 0)),(.int .i64 (.ofNat 0)),(.int .i64 (.ofNat 0)),(.int .i64 (.ofNat 0)),(.bool false),(.bool false)] [(0, 1, k15),(1, 2, t25)]),none⟩,0,0⟩,
⟨[16],⟨d27,.call p17 [t14,t16,t26,k0],none⟩,0,0⟩,
⟨[17],⟨d10,.p (.mv t27),none⟩,1,1⟩,
⟨[18],⟨d28,.p (.ext t10 0),none⟩,1,1⟩,
⟨[20],⟨d6,.a (.alloc 52 [(.int .i64 (.ofNat 0)),(.str []),(.int .i64 (.ofNat 0)),.nils,(.int .i64 (.ofNat 0)),.nils,.nils,.nils]),none⟩,0,1⟩,
⟨[21],⟨none,.w (.st 8 t6 t28),none⟩,1,1⟩,
⟨[19],⟨d29,.p (.ext t10 1),none⟩,1,2⟩,
⟨[22],⟨d7,.p (.mv t29),none⟩,2,2⟩])
 (.seq (.ops [⟨d30,.p (.mv t7),none⟩,
⟨d31,.p (.bin .neq t30 k0),none⟩])
 (.cond t31 (.seq (.ops [⟨d32,.p (.mv t7),none⟩,
⟨d33,.call p130 [t32],none⟩,
⟨d4,.p (.mv (.c .nils)),none⟩,
⟨d5,.p (.mv t33),none⟩])
 .ret)
 .skip)))
 (.seq (.reg [⟨[0],⟨d34,.p (.mv t0),none⟩,0,0⟩,
⟨[1],⟨d35,.r (.ldA 2 t3),none⟩,0,0⟩,
⟨[2],⟨d36,.p (.mv t0),none⟩,0,0⟩,
⟨[3],⟨d37,.p (.nilck t36),none⟩,0,0⟩,
⟨[4],⟨d38,.p (.faddr 3 t37),none⟩,0,0⟩,
⟨[5],⟨d39,.r (.ldS t38),none⟩,0,0⟩,
⟨[6],⟨d40,.call p85 [t34,t35,t39,(.c (.int .i64 (.ofNat 128)))],none⟩,0,0⟩,
⟨[7],⟨d4,.p (.mv t40),none⟩,1,1⟩,
⟨[8],⟨d5,.p (.mv k0),none⟩,1,1⟩])
 .ret))))⟩
theorem c65 : Go.Ev.EntOk Go.Proofs.Tryz.prog (65, f65) := ⟨Go.Proofs.Tryz.f65, Go.Proofs.Tryz.func65, by kernel_rfl, Go.Proofs.Tryz.call65⟩
def f67 : IFunc := ⟨4, [.t p8], (.seq (.ops [⟨d5,.a (.box 36 t1),none⟩,
⟨d8,.p (.mv k0),none⟩])
 (.seq (.reg [⟨[0],⟨d12,.p (.mv t0),none⟩,0,0⟩,
⟨[1],⟨d13,.p (.nilck t12),none⟩,0,0⟩,
⟨[2],⟨d14,.p (.faddr 1 t13),none⟩,0,0⟩,
⟨[3],⟨d15,.r (.ldS t14),none⟩,0,0⟩,
⟨[4],⟨d16,.p (.faddr 0 t5),none⟩,0,0⟩,
⟨[5],⟨d17,.r (.ldS t16),none⟩,0,0⟩,
⟨[6],⟨d18,.p (.mv t0),none⟩,0,0⟩,
⟨[7],⟨d19,.p (.nilck t18),none⟩,0,0⟩,
⟨[8],⟨d20,.p (.faddr 2 t19),none⟩,0,0⟩,
⟨[9],⟨d21,.r (.ldS t20),none⟩,0,0⟩,
⟨[10],⟨d22,.p (.build [(.int .i64 (.ofNat 0)),(.int .i64 (.ofNat 0))] [(0, 1, t21)]),none⟩,0,0⟩,
⟨[11],⟨d23,.p (.mv t0),none⟩,0,0⟩,
⟨[12],⟨d24,.p (.nilck t23),none⟩,0,0⟩,
⟨[13],⟨d25,.p (.faddr 4 t24),none⟩,0,0⟩,
⟨[14],⟨d26,.r (.ldA 2 t25),none⟩,0,0⟩,
⟨[15],⟨d27,.p (.mv t3),none⟩,0,0⟩,
⟨[16],⟨d28,.p (.mv t3),none⟩,0,0⟩,
⟨[17],⟨d29,.p (.build [(.int .i64 (.ofNat 0)),(.int .i64 (.ofNat 0)),(.int .i64 (.ofNat 0)),(.int .i64 (.ofNat 0)),(.int .i64 (.ofNat 0)),(.int .i64 (.ofNat 0)),(.int .i64 (.ofNat 0)),(.int .i64 (.ofNat 0)),(.int .i64 (.ofNat 0)),.nils,(.int .i64 (.ofNat 0)),.nils,(.str []),(.int .i64 (.ofNat 0)),(.int .i64 (.ofNat 0)),(.int .i64 (.ofNat 0)),(.int .i64 (.ofNat 0)),(.int .i64 (.ofNat 0)),(.bool false),(.bool false)] [(0, 1, k5),(1, 2, t22),(8, 2, t26),(5, 1, t27),(6, 1, t28)]),none⟩,0,0⟩,
⟨[18],⟨d30,.p (.faddr 1 t5),none⟩,0,0⟩,
⟨[19],⟨d31,.r (.ldS t30),none⟩,0,0⟩,
⟨[20],⟨d32,.p (.mv t2),none⟩,0,0⟩,
⟨[21],⟨d33,.p (.bin .add t31 t32),none⟩,0,0⟩,
⟨[22],⟨d34,.call p17 [t15,t17,t29,t33],none⟩,0,0⟩,
⟨[23],⟨d11,.p (.mv t34),none⟩,1,1⟩,
⟨[24],⟨d35,.p (.ext t11 0),none⟩,1,1⟩,
⟨[26],⟨d9,.a (.alloc 52 [(.int .i64 (.ofNat 0)),(.str []),(.int .i64 (.ofNat 0)),.nils,(.int .i64 (.ofNat 0)),.nils,.nils,.nils]),none⟩,0,1⟩,
⟨[27],⟨none,.w (.st 8 t9 t35),none⟩,1,1⟩,
⟨[25],⟨d36,.p (.ext t11 1),none⟩,1,2⟩,
⟨[28],⟨d10,.p (.mv t36),none⟩,2,2⟩])
 (.seq (.ops [⟨d37,.p (.mv t10),none⟩,
⟨d38,.call p130 [t37],none⟩,
⟨d8,.p (.mv t38),none⟩])
 .ret)))⟩
theorem c67 : Go.Ev.EntOk Go.Proofs.Tryz.prog (67, f67) := ⟨Go.Proofs.Tryz.f67, Go.Proofs.Tryz.func67, by kernel_rfl, Go.Proofs.Tryz.call67⟩
def f68 : IFunc := ⟨3, [], (.seq (.ops [⟨d4,.a (.box 36 t1),none⟩])
 (.reg [⟨[0],⟨d6,.p (.mv t0),none⟩,0,0⟩,
⟨[1],⟨d7,.p (.nilck t6),none⟩,0,0⟩,
⟨[2],⟨d8,.p (.faddr 1 t7),none⟩,0,0⟩,
⟨[3],⟨d9,.r (.ldS t8),none⟩,0,0⟩,
⟨[4],⟨d10,.p (.faddr 0 t4),none⟩,0,0⟩,
⟨[5],⟨d11,.r (.ldS t10),none⟩,0,0⟩,
⟨[6],⟨d12,.p (.mv t0),none⟩,0,0⟩,
⟨[7],⟨d13,.p (.nilck t12),none⟩,0,0⟩,
⟨[8],⟨d14,.p (.faddr 2 t13),none⟩,0,0⟩,
⟨[9],⟨d15,.r (.ldS t14),none⟩,0,0⟩,
⟨[10],⟨d16,.p (.mv t2),none⟩,0,0⟩,
⟨[11],⟨d17,.p (.build [(.int .i64 (.ofNat 0)),(.int .i64 (.ofNat 0))] [(0, 1, t15),(1, 1, t16)]),none⟩,0,0⟩,
⟨[12],⟨d18,.p (.build [(.int .i64 (.ofNat 0)),(.int .i64 (.ofNat 0)),(.int .i64 (.ofNat 0)),(.int .i64 (.ofNat 0)),(.int .i64 (.ofNat 0)),(.int .i64 (.ofNat 0)),(.int .i64 (.ofNat 0)),(.int .i64 (.ofNat 0)),(.int .i64 (.ofNat 0)),.nils,(.int .i64 (.ofNat 0)),.nils,(.str []),(.int .i64 (.ofNat 0)),(.int .i64 (.ofNat 0)),(.int .i64 (.ofNat 0)),(.int .i64 (.ofNat 0)),(.int .i64 (.ofNat 0)),(.bool false),(.bool false)] [(0, 1, k10),(1, 2, t17)]),none⟩,0,0⟩,
⟨[13],⟨d19,.call p17 [t9,t11,t18,k0],none⟩,0,0⟩]))⟩
theorem c68 : Go.Ev.EntOk Go.Proofs.Tryz.prog (68, f68) := ⟨Go.Proofs.Tryz.f68, Go.Proofs.Tryz.func68, by kernel_rfl, Go.Proofs.Tryz.call68⟩
def f69 : IFunc := ⟨5, [], (.seq (.ops [⟨d6,.a (.box 36 t1),none⟩])
 (.reg [⟨[5],⟨d15,.p (.mv t4),none⟩,0,0⟩,
⟨[6],⟨d16,.call p132 [t15],none⟩,0,0⟩,
⟨[0],⟨d10,.p (.mv t0),none⟩,0,1⟩,
⟨[1],⟨d11,.r (.ldA 2 t6),none⟩,0,1⟩,
⟨[2],⟨d12,.p (.mv t2),none⟩,0,1⟩,
⟨[3],⟨d13,.p (.mv t3),none⟩,0,1⟩,
⟨[4],⟨d14,.p (.bin .mul k8 t13),none⟩,0,1⟩,
⟨[7],⟨d17,.call p131 [t10,t11,t12,t14,t16],none⟩,1,1⟩]))⟩
theorem c69 : Go.Ev.EntOk Go.Proofs.Tryz.prog (69, f69) := ⟨Go.Proofs.Tryz.f69, Go.Proofs.Tryz.func69, by kernel_rfl, Go.Proofs.Tryz.call69⟩
def f76 : IFunc := ⟨6, [.t p12,.t p13], (.seq (.ops [⟨d8,.a (.box 36 t2),none⟩,
⟨d10,.a (.box 49 t4),none⟩,
⟨d12,.p (.mv (.c .nilp)),none⟩,
⟨d13,.p (.mv k0),none⟩])
 (.seq (.seq (.ops [⟨d18,.p (.mv t0),none⟩,
⟨d19,.p (.eqp false t18 (.c .nilp)),none⟩,
⟨d20,.p (.mv t19),none⟩,
⟨d21,.p (.mv t1),(some (p20, false))⟩,
⟨d22,.p (.eqp false t21 (.c .nilp)),(some (p20, false))⟩,
⟨d23,.p (.pick t20 (.c (.bool true)) t22),none⟩])
 (.cond t23 (.seq (.ops [⟨d12,.p (.mv (.c .nilp)),none⟩,
⟨d13,.p (.mv k4),none⟩])
 .ret)
 .skip))
 (.seq (.ops [⟨d24,.p (.mv t0),none⟩,
⟨d25,.p (.mv t1),none⟩,
⟨d26,.p (.faddr 1 t8),none⟩,
⟨d27,.r (.ldS t26),none⟩,
⟨d28,.p (.faddr 1 t8),none⟩,
⟨d29,.r (.ldS t28),none⟩,
⟨d30,.p (.bin .add t29 k1),none⟩,
⟨d31,.r (.ldA 2 t10),none⟩,
⟨d32,.p (.build [.nilp,.nilp,(.int .i64 (.ofNat 0)),(.int .i64 (.ofNat 0)),(.int .i64 (.ofNat 0)),.nils] [(0, 1, t24),(1, 1, t25),(2, 1, t27),(3, 1, t30),(4, 2, t31)]),none⟩,
⟨d33,.a (.box 158 t32),none⟩,
⟨d14,.p (.mv t33),none⟩])
 (.seq (.seq (.ops [⟨d35,.p (.mv t1),none⟩,
⟨d36,.p (.faddr 0 t8),none⟩,
⟨d37,.r (.ldS t36),none⟩,
⟨d38,.p (.mv t3),none⟩,
⟨d39,.p (.build [(.int .i64 (.ofNat 0)),(.int .i64 (.ofNat 0))] [(0, 1, t38)]),none⟩,
⟨d40,.r (.ldA 2 t10),none⟩,
⟨d41,.p (.mv t5),none⟩,
⟨d42,.p (.build [(.int .i64 (.ofNat 0)),(.int .i64 (.ofNat 0)),(.int .i64 (.ofNat 0)),(.int .i64 (.ofNat 0)),(.int .i64 (.ofNat 0)),(.int .i64 (.ofNat 0)),(.int .i64 (.ofNat 0)),(.int .i64 (.ofNat 0)),(.int .i64 (.ofNat 0)),.nils,(.int .i64 (.ofNat 0)),.nils,(.str []),(.int .i64 (.ofNat 0)),(.int .i64 (.ofNat 0)),(.int .i64 (.ofNat 0)),(.int .i64 (.ofNat 0)),(.int .i64 (.ofNat 0)),(.bool false),(.bool false)] [(0, 1, k4),(1, 2, t39),(8, 2, t40),(5, 1, t41)]),none⟩,
⟨d43,.p (.faddr 1 t8),none⟩,
⟨d44,.r (.ldS t43),none⟩,
⟨d45,.call p17 [t35,t37,t42,t44],none⟩,
⟨d34,.p (.mv t45),none⟩,
⟨d46,.p (.ext t34 0),none⟩,
⟨d47,.p (.ext t34 1),none⟩,
⟨d15,.a (.alloc 52 [(.int .i64 (.ofNat 0)),(.str []),(.int .i64 (.ofNat 0)),.nils,(.int .i64 (.ofNat 0)),.nils,.nils,.nils]),none⟩,
⟨none,.w (.st 8 t15 t46),none⟩,
⟨d16,.p (.mv t47),none⟩])
 (.seq (.ops [⟨d48,.p (.mv t16),none⟩,
⟨d49,.p (.bin .neq t48 k0),none⟩])
 (.cond t49 (.seq (.ops [⟨d50,.p (.mv t16),none⟩,
⟨d51,.call p130 [t50],none⟩,
⟨d12,.p (.mv (.c .nilp)),none⟩,
⟨d13,.p (.mv t51),none⟩])
 .ret)
 .skip)))
 (.seq (.seq (.ops [⟨d52,.p (.mv t14),none⟩,
⟨d53,.r (.ldA 2 t8),none⟩,
⟨d54,.call p67 [t52,t53,k1,(.c (.int .i64 (.ofNat 128)))],none⟩,
⟨d17,.p (.mv t54),none⟩])
 (.seq (.ops [⟨d55,.p (.mv t17),none⟩,
⟨d56,.p (.bin .neq t55 k0),none⟩])
 (.cond t56 (.seq (.ops [⟨d57,.p (.mv t1),none⟩,
⟨d58,.p (.faddr 0 t8),none⟩,
⟨d59,.r (.ldS t58),none⟩,
⟨d60,.p (.mv t3),none⟩,
⟨d61,.p (.faddr 1 t8),none⟩,
⟨d62,.r (.ldS t61),none⟩,
⟨d63,.p (.build [(.int .i64 (.ofNat 0)),(.int .i64 (.ofNat 0))] [(0, 1, t60),(1, 1, t62)]),none⟩,
⟨d64,.p (.build [(.int .i64 (.ofNat 0)),(.int .i64 (.ofNat 0)),(.int .i64 (.ofNat 0)),(.int .i64 (.ofNat 0)),(.int .i64 (.ofNat 0)),(.int .i64 (.ofNat 0)),(.int .i64 (.ofNat 0)),(.int .i64 (.ofNat 0)),(.int .i64 (.ofNat 0)),.nils,(.int .i64 (.ofNat 0)),.nils,(.str []),(.int .i64 (.ofNat 0)),(.int .i64 (.ofNat 0)),(.int .i64 (.ofNat 0)),(.int .i64 (.ofNat 0)),(.int .i64 (.ofNat 0)),(.bool false),(.bool false)] [(0, 1, k10),(1, 2, t63)]),none⟩,
⟨d65,.call p17 [t57,t59,t64,k0],none⟩])
 (.seq (.ops [⟨d66,.p (.mv t17),none⟩,
⟨d12,.p (.mv (.c .nilp)),none⟩,
⟨d13,.p (.mv t66),none⟩])
 .ret))
 .skip)))
 (.seq (.ops [⟨d67,.p (.mv t14),none⟩,
⟨d12,.p (.mv t67),none⟩,
⟨d13,.p (.mv k0),none⟩])
 .ret))))))⟩
theorem c76 : Go.Ev.EntOk Go.Proofs.Tryz.prog (76, f76) := ⟨Go.Proofs.Tryz.f76, Go.Proofs.Tryz.func76, by kernel_rfl, Go.Proofs.Tryz.call76⟩
def f77 : IFunc := ⟨1, [.t p2], (.seq (.ops [⟨d2,.p (.mv (.c .nilp)),none⟩])
 (.seq (.ops [⟨d7,.p (.build [(.int .i64 (.ofNat 0)),(.int .i64 (.ofNat 0)),(.int .i64 (.ofNat 0)),(.int .i64 (.ofNat 0)),(.bool false),(.int .i64 (.ofNat 0)),(.int .i64 (.ofNat 0)),(.int .i64 (.ofNat 0)),(.int .i64 (.ofNat 0)),(.int .i64 (.ofNat 0)),(.bool false),(.int .i64 (.ofNat 0)),(.int .i64 (.ofNat 0)),(.int .i64 (.ofNat 0)),(.int .i64 (.ofNat 0)),(.int .i64 (.ofNat 0)),(.bool false),(.int .i64 (.ofNat 0)),(.int .i64 (.ofNat 0)),(.int .i64 (.ofNat 0)),(.int .i64 (.ofNat 0)),(.int .i64 (.ofNat 0)),(.bool false),(.int .i64 (.ofNat 0)),(.int .i64 (.ofNat 0)),(.int .i64 (.ofNat 0)),(.int .i64 (.ofNat 0)),(.int .i64 (.ofNat 0)),(.bool false),(.int .i64 (.ofNat 0)),(.int .i64 (.ofNat 0)),(.int .i64 (.ofNat 0)),(.int .i64 (.ofNat 0)),(.int .i64 (.ofNat 0)),(.bool false),(.int .i64 (.ofNat 0)),(.int .i64 (.ofNat 0)),(.int .i64 (.ofNat 0)),(.int .i64 (.ofNat 0)),(.int .i64 (.ofNat 0)),(.bool false),(.int .i64 (.ofNat 0)),(.int .i64 (.ofNat 0)),(.int .i64 (.ofNat 0)),(.int .i64 (.ofNat 0)),(.int .i64 (.ofNat 0)),(.bool false),(.int .i64 (.ofNat 0)),(.int .i64 (.ofNat 0)),(.int .i64 (.ofNat 0)),(.int .i64 (.ofNat 0)),(.int .i64 (.ofNat 0)),(.bool false),(.int .i64 (.ofNat 0)),(.int .i64 (.ofNat 0)),(.int .i64 (.ofNat 0)),(.int .i64 (.ofNat 0)),(.int .i64 (.ofNat 0)),(.bool false),(.int .i64 (.ofNat 0)),(.int .i64 (.ofNat 0)),(.int .i64 (.ofNat 0)),(.int .i64 (.ofNat 0)),(.int .i64 (.ofNat 0)),(.bool false),(.int .i64 (.ofNat 0)),(.int .i64 (.ofNat 0)),(.int .i64 (.ofNat 0)),(.int .i64 (.ofNat 0)),(.int .i64 (.ofNat 0)),(.bool false),(.int .i64 (.ofNat 0)),(.int .i64 (.ofNat 0)),(.int .i64 (.ofNat 0)),(.int .i64 (.ofNat 0)),(.int .i64 (.ofNat 0)),(.bool false),(.int .i64 (.ofNat 0)),(.int .i64 (.ofNat 0)),(.int .i64 (.ofNat 0)),(.int .i64 (.ofNat 0)),(.int .i64 (.ofNat 0)),(.bool false),(.int .i64 (.ofNat 0)),(.int .i64 (.ofNat 0)),(.int .i64 (.ofNat 0)),(.int .i64 (.ofNat 0)),(.int .i64 (.ofNat 0)),(.bool false),(.int .i64 (.ofNat 0)),(.int .i64 (.ofNat 0)),(.int .i64 (.ofNat 0)),(.int .i64 (.ofNat 0)),(.int .i64 (.ofNat 0)),(.bool false),(.int .i64 (.ofNat 0)),(.int .i64 (.ofNat 0)),(.int .i64 (.ofNat 0)),(.int .i64 (.ofNat 0)),(.int .i64 (.ofNat 0)),(.bool false),(.int .i64 (.ofNat 0)),(.int .i64 (.ofNat 0)),(.int .i64 (.ofNat 0)),(.int .i64 (.ofNat 0)),(.int .i64 (.ofNat 0)),(.bool false),(.int .i64 (.ofNat 0)),(.int .i64 (.ofNat 0)),(.int .i64 (.ofNat 0)),(.int .i64 (.ofNat 0)),(.int .i64 (.ofNat 0)),(.bool false),(.int .i64 (.ofNat 0)),(.int .i64 (.ofNat 0)),(.int .i64 (.ofNat 0)),(.int .i64 (.ofNat 0)),(.int .i64 (.ofNat 0)),(.bool false),(.int .i64 (.ofNat 0)),(.int .i64 (.ofNat 0)),(.int .i64 (.ofNat 0)),(.int .i64 (.ofNat 0)),(.int .i64 (.ofNat 0)),(.bool false),(.int .i64 (.ofNat 0)),(.int .i64 (.ofNat 0)),(.int .i64 (.ofNat 0)),(.int .i64 (.ofNat 0)),(.int .i64 (.ofNat 0)),(.bool false),(.int .i64 (.ofNat 0)),(.int .i64 (.ofNat 0)),(.int .i64 (.ofNat 0)),(.int .i64 (.ofNat 0)),(.int .i64 (.ofNat 0)),(.bool false),(.int .i64 (.ofNat 0)),(.int .i64 (.ofNat 0)),(.int .i64 (.ofNat 0)),(.int .i64 (.ofNat 0)),(.int .i64 (.ofNat 0)),(.bool false),(.int .i64 (.ofNat 0)),(.int .i64 (.ofNat 0)),(.int .i64 (.ofNat 0)),(.int .i64 (.ofNat 0)),(.int .i64 (.ofNat 0)),(.bool false),(.int .i64 (.ofNat 0)),(.int .i64 (.ofNat 0)),(.int .i64 (.ofNat 0)),(.int .i64 (.ofNat 0)),(.int .i64 (.ofNat 0)),(.bool false),(.int .i64 (.ofNat 0)),(.int .i64 (.ofNat 0)),(.int .i64 (.ofNat 0)),(.int .i64 (.ofNat 0)),(.int .i64 (.ofNat 0)),(.bool false),(.int .i64 (.ofNat 0)),(.int .i64 (.ofNat 0)),(.int .i64 (.ofNat 0)),(.int .i64 (.ofNat 0)),(.int .i64 (.ofNat 0)),(.bool false),(.int .i64 (.ofNat 0)),(.int .i64 (.ofNat 0)),(.int .i64 (.ofNat 0)),(.int .i64 (.ofNat 0)),(.int .i64 (.ofNat 0)),(.bool false),(.int .i64 (.ofNat 0)),(.int .i64 (.ofNat 0)),(.int .i64 (.ofNat 0)),(.int .i64 (.ofNat 0)),(.int .i64 (.ofNat 0)),(.bool false),(.int .i64 (.ofNat 0)),(.int .i64 (.ofNat 0)),(.int .i64 (.ofNat 0)),(.int .i64 (.ofNat 0)),(.int .i64 (.ofNat 0)),(.bool false),(.int .i64 (.ofNat 0)),(.int .i64 (.ofNat 0)),(.int .i64 (.ofNat 0)),(.int .i64 (.ofNat 0)),(.int .i64 (.ofNat 0)),(.bool false),(.int .i64 (.ofNat 0))] []),none⟩,
⟨d8,.a (.box 284 t7),none⟩,
⟨d3,.a (.alloc 117 [.nilp]),none⟩,
⟨none,.w (.st 1 t3 t8),none⟩])
 (.seq (.seq (.ops [⟨d9,.call p87 [],none⟩,
⟨d10,.p (.mv t0),none⟩,
⟨d11,.call p137 [t9,t10],none⟩])
 (.block 0 (.rangef t11 [p12,p13] (.seq (.ops [⟨d4,.p (.mv t12),none⟩])
 (.ops [⟨d5,.a (.alloc 77 [(.int .i64 (.ofNat 0)),(.int .i64 (.ofNat 0)),(.int .i64 (.ofNat 0)),(.int .i64 (.ofNat 0)),(.bool false),(.int .i64 (.ofNat 0))]),none⟩,
⟨none,.w (.st 6 t5 t13),none⟩]))
 (.block 1 (.seq (.ops [⟨d14,.p (.mv t4),none⟩,
⟨d15,.p (.bin .lss t14 k32),none⟩])
 (.cond t15 (.reg [⟨[0],⟨d16,.r (.ldS t3),none⟩,0,0⟩,
⟨[1],⟨d17,.p (.mv t4),none⟩,0,0⟩,
⟨[2],⟨d18,.r (.ldA 6 t5),none⟩,0,0⟩,
⟨[3],⟨d19,.p (.nilck t16),none⟩,0,0⟩,
⟨[4],⟨d20,.p (.iaddrA 32 6 t19 t17),none⟩,0,0⟩,
⟨[5],⟨none,.w (.st 6 t20 t18),none⟩,0,0⟩])
 .skip))))))
 (.seq (.seq (.ops [⟨d21,.p (.mv k0),none⟩])
 (.block 2 (.loop (.seq (.ops [⟨d22,.p (.bin .lss t21 k32),none⟩])
 (.seq (.cond t22 .skip
 (.exit 2))
 (.seq (.block 3 (.seq (.ops [⟨d23,.p (.mv t21),none⟩,
⟨d6,.p (.mv t23),none⟩])
 (.ops [⟨d24,.r (.ldS t3),none⟩,
⟨d25,.p (.mv t6),none⟩,
⟨d26,.p (.mv t6),none⟩,
⟨d27,.p (.bin .add t26 k1),none⟩,
⟨d28,.p (.nilck t24),none⟩,
⟨d29,.p (.iaddrA 32 6 t28 t25),none⟩,
⟨d30,.p (.faddr 0 t29),none⟩,
⟨none,.w (.st 1 t30 t27),none⟩])))
 (.ops [⟨d31,.p (.bin .add t21 k1),none⟩,
⟨d21,.p (.mv t31),none⟩])))))))
 (.seq (.ops [⟨d32,.r (.ldS t3),none⟩,
⟨d2,.p (.mv t32),none⟩])
 .ret)))))⟩
theorem c77 : Go.Ev.EntOk Go.Proofs.Tryz.prog (77, f77) := ⟨Go.Proofs.Tryz.f77, Go.Proofs.Tryz.func77, by kernel_rfl, Go.Proofs.Tryz.call77⟩
def f78 : IFunc := ⟨1, [.t p2,.t p3], (.seq (.ops [⟨d1,.a (.box 173 t0),none⟩,
⟨d2,.p (.mv (.c .nilp)),none⟩,
⟨d3,.p (.mv k0),none⟩])
 (.seq (.seq (.ops [⟨d5,.p (.faddr 0 t1),none⟩,
⟨d6,.r (.ldS t5),none⟩,
⟨d7,.call p138 [t6],none⟩,
⟨d8,.p (.not t7),none⟩,
⟨d9,.p (.mv t8),none⟩,
⟨d10,.p (.faddr 1 t1),(some (p9, false))⟩,
⟨d11,.r (.ldS t10),(some (p9, false))⟩,
⟨d12,.call p138 [t11],(some (p9, false))⟩,
⟨d13,.p (.not t12),(some (p9, false))⟩,
⟨d14,.p (.pick t9 (.c (.bool true)) t13),none⟩,
⟨d15,.p (.mv t14),none⟩,
⟨d16,.p (.faddr 2 t1),(some (p15, false))⟩,
⟨d17,.r (.ldS t16),(some (p15, false))⟩,
⟨d18,.call p138 [t17],(some (p15, false))⟩,
⟨d19,.p (.not t18),(some (p15, false))⟩,
⟨d20,.p (.pick t15 (.c (.bool true)) t19),none⟩,
⟨d21,.p (.mv t20),none⟩,
⟨d22,.p (.faddr 0 t1),(some (p21, false))⟩,
⟨d23,.r (.ldS t22),(some (p21, false))⟩,
⟨d24,.p (.faddr 1 t1),(some (p21, false))⟩,
⟨d25,.r (.ldS t24),(some (p21, false))⟩,
⟨d26,.p (.bin .eql t23 t25),(some (p21, false))⟩,
⟨d27,.p (.pick t21 (.c (.bool true)) t26),none⟩,
⟨d28,.p (.mv t27),none⟩,
⟨d29,.p (.faddr 0 t1),(some (p28, false))⟩,
⟨d30,.r (.ldS t29),(some (p28, false))⟩,
⟨d31,.p (.faddr 2 t1),(some (p28, false))⟩,
⟨d32,.r (.ldS t31),(some (p28, false))⟩,
⟨d33,.p (.bin .eql t30 t32),(some (p28, false))⟩,
⟨d34,.p (.pick t28 (.c (.bool true)) t33),none⟩,
⟨d35,.p (.mv t34),none⟩,
⟨d36,.p (.faddr 1 t1),(some (p35, false))⟩,
⟨d37,.r (.ldS t36),(some (p35, false))⟩,
⟨d38,.p (.faddr 2 t1),(some (p35, false))⟩,
⟨d39,.r (.ldS t38),(some (p35, false))⟩,
⟨d40,.p (.bin .eql t37 t39),(some (p35, false))⟩,
⟨d41,.p (.pick t35 (.c (.bool true)) t40),none⟩])
 (.cond t41 (.seq (.ops [⟨d2,.p (.mv (.c .nilp)),none⟩,
⟨d3,.p (.mv k1),none⟩])
 .ret)
 .skip))
 (.seq (.reg [⟨[2],⟨d44,.call p140 [k2],none⟩,0,0⟩,
⟨[0],⟨d42,.p (.faddr 0 t1),none⟩,0,1⟩,
⟨[1],⟨d43,.r (.ldS t42),none⟩,0,1⟩,
⟨[3],⟨d45,.call p139 [t43,t44],none⟩,1,1⟩,
⟨[4],⟨d46,.call p141 [],none⟩,2,2⟩,
⟨[18],⟨d58,.call p140 [k4],none⟩,3,3⟩,
⟨[6],⟨d48,.p (.faddr 0 t1),none⟩,0,4⟩,
⟨[7],⟨d49,.r (.ldS t48),none⟩,0,4⟩,
⟨[8],⟨d50,.p (.build [.nilp,.nils,(.int .i64 (.ofNat 0)),.nils,(.int .i64 (.ofNat 0)),(.int .i64 (.ofNat 0)),(.int .u64 (.ofNat 0)),(.int .u64 (.ofNat 0)),(.int .u64 (.ofNat 0)),(.int .u64 (.ofNat 0)),(.int .u64 (.ofNat 0)),(.int .u64 (.ofNat 0)),(.int .u64 (.ofNat 0)),(.int .u64 (.ofNat 0)),(.int .u64 (.ofNat 0)),(.int .u64 (.ofNat 0)),(.int .u64 (.ofNat 0)),(.int .u64 (.ofNat 0)),(.int .u64 (.ofNat 0)),(.int .u64 (.ofNat 0)),(.int .u64 (.ofNat 0)),(.int .u64 (.ofNat 0)),(.int .u64 (.ofNat 0)),(.int .u64 (.ofNat 0)),(.int .i64 (.ofNat 0)),(.str []),(.str [])] []),none⟩,0,4⟩,
⟨[9],⟨d51,.a (.box 147 t50),none⟩,0,4⟩,
⟨[11],⟨d52,.p (.faddr 1 t1),none⟩,0,4⟩,
⟨[12],⟨d53,.r (.ldS t52),none⟩,0,4⟩,
⟨[13],⟨d54,.p (.build [.nilp,.nils,(.int .i64 (.ofNat 0)),.nils,(.int .i64 (.ofNat 0)),(.int .i64 (.ofNat 0)),(.int .u64 (.ofNat 0)),(.int .u64 (.ofNat 0)),(.int .u64 (.ofNat 0)),(.int .u64 (.ofNat 0)),(.int .u64 (.ofNat 0)),(.int .u64 (.ofNat 0)),(.int .u64 (.ofNat 0)),(.int .u64 (.ofNat 0)),(.int .u64 (.ofNat 0)),(.int .u64 (.ofNat 0)),(.int .u64 (.ofNat 0)),(.int .u64 (.ofNat 0)),(.int .u64 (.ofNat 0)),(.int .u64 (.ofNat 0)),(.int .u64 (.ofNat 0)),(.int .u64 (.ofNat 0)),(.int .u64 (.ofNat 0)),(.int .u64 (.ofNat 0)),(.int .i64 (.ofNat 0)),(.str []),(.str [])] []),none⟩,0,4⟩,
⟨[14],⟨d55,.a (.box 147 t54),none⟩,0,4⟩,
⟨[16],⟨d56,.p (.faddr 2 t1),none⟩,0,4⟩,
⟨[17],⟨d57,.r (.ldS t56),none⟩,0,4⟩,
⟨[19],⟨d59,.p (.build [.nilp,.nils,(.int .i64 (.ofNat 0)),.nils,(.int .i64 (.ofNat 0)),(.int .i64 (.ofNat 0)),(.int .u64 (.ofNat 0)),(.int .u64 (.ofNat 0)),(.int .u64 (.ofNat 0)),(.int .u64 (.ofNat 0)),(.int .u64 (.ofNat 0)),(.int .u64 (.ofNat 0)),(.int .u64 (.ofNat 0)),(.int .u64 (.ofNat 0)),(.int .u64 (.ofNat 0)),(.int .u64 (.ofNat 0)),(.int .u64 (.ofNat 0)),(.int .u64 (.ofNat 0)),(.int .u64 (.ofNat 0)),(.int .u64 (.ofNat 0)),(.int .u64 (.ofNat 0)),(.int .u64 (.ofNat 0)),(.int .u64 (.ofNat 0)),(.int .u64 (.ofNat 0)),(.int .i64 (.ofNat 0)),(.str []),(.str [])] [(2, 2, t58)]),none⟩,4,4⟩,
⟨[20],⟨d60,.a (.box 147 t59),none⟩,4,4⟩,
⟨[5, 10, 15, 21],⟨d47,.a (.lit [(t49, t51),(t53, t55),(t57, t60)]),none⟩,0,0⟩,
⟨[22],⟨d61,.p (.mv t47),none⟩,4,4⟩,
⟨[24],⟨d63,.p (.faddr 0 t1),none⟩,0,4⟩,
⟨[25],⟨d64,.r (.ldS t63),none⟩,0,4⟩,
⟨[27],⟨d65,.p (.faddr 1 t1),none⟩,0,4⟩,
⟨[28],⟨d66,.r (.ldS t65),none⟩,0,4⟩,
⟨[30],⟨d67,.p (.faddr 2 t1),none⟩,0,4⟩,
⟨[31],⟨d68,.r (.ldS t67),none⟩,0,4⟩,
⟨[23, 26, 29, 32],⟨d62,.a (.lit [(t64, (.c (.bool true))),(t66, (.c (.bool true))),(t68, (.c (.bool true)))]),none⟩,0,0⟩,
⟨[33],⟨d69,.p (.mv t62),none⟩,0,4⟩,
⟨[34],⟨d70,.p (.build [.nilp,.nilp,.nilm,.nilm,(.int .i64 (.ofNat 0))] [(0, 1, t45),(1, 1, t46),(2, 1, t61),(3, 1, t69)]),none⟩,4,4⟩,
⟨[35],⟨d71,.a (.box 141 t70),none⟩,4,4⟩,
⟨[36],⟨d4,.p (.mv t71),none⟩,4,4⟩])
 (.seq (.reg [⟨[8],⟨d80,.call p140 [k2],none⟩,0,0⟩,
⟨[0],⟨d72,.p (.mv t4),none⟩,0,1⟩,
⟨[1],⟨d73,.p (.nilck t72),none⟩,0,1⟩,
⟨[2],⟨d74,.p (.faddr 0 t73),none⟩,0,1⟩,
⟨[3],⟨d75,.r (.ldS t74),none⟩,0,1⟩,
⟨[4],⟨d76,.p (.faddr 0 t1),none⟩,0,1⟩,
⟨[5],⟨d77,.r (.ldS t76),none⟩,0,1⟩,
⟨[6],⟨d78,.p (.faddr 1 t1),none⟩,0,1⟩,
⟨[7],⟨d79,.r (.ldS t78),none⟩,0,1⟩,
⟨[9],⟨d81,.call p142 [t75,t77,t79,k6,k1,t80],none⟩,1,1⟩])
 (.seq (.reg [⟨[8],⟨d90,.call p140 [k2],none⟩,0,0⟩,
⟨[0],⟨d82,.p (.mv t4),none⟩,0,1⟩,
⟨[1],⟨d83,.p (.nilck t82),none⟩,0,1⟩,
⟨[2],⟨d84,.p (.faddr 0 t83),none⟩,0,1⟩,
⟨[3],⟨d85,.r (.ldS t84),none⟩,0,1⟩,
⟨[4],⟨d86,.p (.faddr 0 t1),none⟩,0,1⟩,
⟨[5],⟨d87,.r (.ldS t86),none⟩,0,1⟩,
⟨[6],⟨d88,.p (.faddr 2 t1),none⟩,0,1⟩,
⟨[7],⟨d89,.r (.ldS t88),none⟩,0,1⟩,
⟨[9],⟨d91,.call p142 [t85,t87,t89,k4,k1,t90],none⟩,1,1⟩])
 (.seq (.ops [⟨d92,.p (.mv t4),none⟩,
⟨d2,.p (.mv t92),none⟩,
⟨d3,.p (.mv k0),none⟩])
 .ret))))))⟩
theorem c78 : Go.Ev.EntOk Go.Proofs.Tryz.prog (78, f78) := ⟨Go.Proofs.Tryz.f78, Go.Proofs.Tryz.func78, by kernel_rfl, Go.Proofs.Tryz.call78⟩
def f79 : IFunc := ⟨0, [.cA p0 3], (.seq (.ops [⟨d0,.a (.alloc 173 [(.int .i64 (.ofNat 0)),(.int .i64 (.ofNat 0)),(.int .i64 (.ofNat 0))]),none⟩])
 (.seq (.ops [⟨d1,.p (.build [(.int .i64 (.ofNat 0)),(.int .i64 (.ofNat 0)),(.int .i64 (.ofNat 0))] [(0, 1, k1),(1, 1, k2),(2, 1, k3)]),none⟩,
⟨none,.w (.st 3 t0 t1),none⟩])
 .ret))⟩
theorem c79 : Go.Ev.EntOk Go.Proofs.Tryz.prog (79, f79) := ⟨Go.Proofs.Tryz.f79, Go.Proofs.Tryz.func79, by kernel_rfl, Go.Proofs.Tryz.call79⟩
def f80 : IFunc := ⟨5, [.t p10,.t p11], (.seq (.ops [⟨d6,.a (.box 36 t1),none⟩,
⟨d8,.a (.box 49 t3),none⟩,
⟨d10,.p (.mv (.c .nilp)),none⟩,
⟨d11,.p (.mv k0),none⟩])
 (.seq (.seq (.ops [⟨d14,.p (.mv t0),none⟩,
⟨d15,.p (.eqp false t14 (.c .nilp)),none⟩])
 (.cond t15 (.seq (.ops [⟨d10,.p (.mv (.c .nilp)),none⟩,
⟨d11,.p (.mv k4),none⟩])
 .ret)
 .skip))
 (.seq (.ops [⟨d16,.p (.mv t0),none⟩,
⟨d17,.p (.faddr 1 t6),none⟩,
⟨d18,.r (.ldS t17),none⟩,
⟨d19,.p (.build [.nilp,(.int .i64 (.ofNat 0))] [(0, 1, t16),(1, 1, t18)]),none⟩,
⟨d20,.a (.box 293 t19),none⟩,
⟨d12,.p (.mv t20),none⟩])
 (.seq (.seq (.ops [⟨d21,.p (.mv t12),none⟩,
⟨d22,.r (.ldA 2 t6),none⟩,
⟨d23,.p (.mv t2),none⟩,
⟨d24,.r (.ldA 2 t8),none⟩,
⟨d25,.p (.mv t4),none⟩,
⟨d26,.call p143 [t21,t22,t23,t24,t25],none⟩,
⟨d13,.p (.mv t26),none⟩])
 (.seq (.ops [⟨d27,.p (.mv t13),none⟩,
⟨d28,.p (.bin .neq t27 k0),none⟩])
 (.cond t28 (.seq (.ops [⟨d29,.p (.mv t13),none⟩,
⟨d10,.p (.mv (.c .nilp)),none⟩,
⟨d11,.p (.mv t29),none⟩])
 .ret)
 .skip)))
 (.seq (.ops [⟨d30,.p (.mv t12),none⟩,
⟨d10,.p (.mv t30),none⟩,
⟨d11,.p (.mv k0),none⟩])
 .ret)))))⟩
theorem c80 : Go.Ev.EntOk Go.Proofs.Tryz.prog (80, f80) := ⟨Go.Proofs.Tryz.f80, Go.Proofs.Tryz.func80, by kernel_rfl, Go.Proofs.Tryz.call80⟩
def f81 : IFunc := ⟨0, [.cA p0 2], (.seq (.ops [⟨d0,.a (.alloc 49 [(.int .i64 (.ofNat 0)),.nils]),none⟩])
 (.seq (.ops [⟨d1,.p (.build [(.int .i64 (.ofNat 0)),.nils] [(0, 1, k2)]),none⟩,
⟨none,.w (.st 2 t0 t1),none⟩])
 .ret))⟩
theorem c81 : Go.Ev.EntOk Go.Proofs.Tryz.prog (81, f81) := ⟨Go.Proofs.Tryz.f81, Go.Proofs.Tryz.func81, by kernel_rfl, Go.Proofs.Tryz.call81⟩
def f82 : IFunc := ⟨2, [.cA p4 2], (.seq (.ops [⟨d4,.a (.alloc 49 [(.int .i64 (.ofNat 0)),.nils]),none⟩])
 (.seq (.ops [⟨d5,.p (.mv t0),none⟩,
⟨d6,.p (.mv t1),none⟩,
⟨d7,.p (.build [(.int .i64 (.ofNat 0)),(.int .i64 (.ofNat 0))] [(0, 1, t5),(1, 1, t6)]),none⟩,
⟨d8,.a (.bslice 178 2 1 [(.int .i64 (.ofNat 0)),(.int .i64 (.ofNat 0))] [(0, 2, t7)]),none⟩,
⟨d9,.p (.build [(.int .i64 (.ofNat 0)),.nils] [(0, 1, k2),(1, 1, t8)]),none⟩,
⟨none,.w (.st 2 t4 t9),none⟩])
 .ret))⟩
theorem c82 : Go.Ev.EntOk Go.Proofs.Tryz.prog (82, f82) := ⟨Go.Proofs.Tryz.f82, Go.Proofs.Tryz.func82, by kernel_rfl, Go.Proofs.Tryz.call82⟩
def f83 : IFunc := ⟨6, [.t p12], (.seq (.ops [⟨d7,.a (.box 113 t1),none⟩,
⟨d8,.a (.box 49 t2),none⟩,
⟨d9,.a (.box 49 t3),none⟩,
⟨d12,.p (.mv k0),none⟩])
 (.seq (.seq (.ops [⟨d15,.p (.mv t0),none⟩,
⟨d16,.r (.ldA 4 t7),none⟩,
⟨d17,.r (.ldA 2 t8),none⟩,
⟨d18,.r (.ldA 2 t9),none⟩,
⟨d19,.p (.mv t4),none⟩,
⟨d20,.p (.mv t5),none⟩,
⟨d21,.call p144 [t15,t16,t17,t18,t19,t20],none⟩,
⟨d13,.p (.mv t21),none⟩])
 (.seq (.ops [⟨d22,.p (.mv t13),none⟩,
⟨d23,.p (.bin .neq t22 k0),none⟩])
 (.cond t23 (.seq (.ops [⟨d24,.p (.mv t13),none⟩,
⟨d12,.p (.mv t24),none⟩])
 .ret)
 .skip)))
 (.seq (.ops [⟨d25,.p (.mv t0),none⟩,
⟨d26,.p (.mv t0),none⟩,
⟨d27,.p (.nilck t26),none⟩,
⟨d28,.p (.faddr 1 t27),none⟩,
⟨d29,.r (.ldS t28),none⟩,
⟨d30,.p (.mv t5),none⟩,
⟨d31,.a (.bslice 3 1 1 [(.int .i64 (.ofNat 0))] [(0, 1, t30)]),none⟩,
⟨d32,.w (.app 3 1 8 t29 t31),none⟩,
⟨d33,.p (.nilck t25),none⟩,
⟨d34,.p (.faddr 1 t33),none⟩,
⟨none,.w (.st 1 t34 t32),none⟩])
 (.seq (.seq (.ops [⟨d35,.p (.mv t0),none⟩,
⟨d36,.r (.ldA 4 t7),none⟩,
⟨d37,.r (.ldA 2 t9),none⟩,
⟨d38,.r (.ldA 2 t9),none⟩,
⟨d39,.p (.mv t5),none⟩,
⟨d40,.p (.bin .add t39 k1),none⟩,
⟨d41,.call p144 [t35,t36,t37,t38,(.c (.int .i64 (.ofNat 4096))),t40],none⟩,
⟨d14,.p (.mv t41),none⟩])
 (.seq (.ops [⟨d42,.p (.mv t14),none⟩,
⟨d43,.p (.bin .neq t42 k0),none⟩])
 (.cond t43 (.seq (.ops [⟨d44,.p (.mv t14),none⟩,
⟨d12,.p (.mv t44),none⟩])
 .ret)
 .skip)))
 (.seq (.ops [⟨d45,.p (.mv t0),none⟩,
⟨d46,.p (.mv t0),none⟩,
⟨d47,.p (.nilck t46),none⟩,
⟨d48,.p (.faddr 1 t47),none⟩,
⟨d49,.r (.ldS t48),none⟩,
⟨d50,.p (.mv t5),none⟩,
⟨d51,.p (.bin .add t50 k1),none⟩,
⟨d52,.a (.bslice 3 1 1 [(.int .i64 (.ofNat 0))] [(0, 1, t51)]),none⟩,
⟨d53,.w (.app 3 1 8 t49 t52),none⟩,
⟨d54,.p (.nilck t45),none⟩,
⟨d55,.p (.faddr 1 t54),none⟩,
⟨none,.w (.st 1 t55 t53),none⟩])
 (.seq (.ops [⟨d12,.p (.mv k0),none⟩])
 .ret))))))⟩
theorem c83 : Go.Ev.EntOk Go.Proofs.Tryz.prog (83, f83) := ⟨Go.Proofs.Tryz.f83, Go.Proofs.Tryz.func83, by kernel_rfl, Go.Proofs.Tryz.call83⟩
def f84 : IFunc := ⟨0, [.t p0], (.seq (.ops [⟨d0,.p (.mv (.c .nils)),none⟩])
 (.seq (.ops [⟨d3,.a (.mkslice 3 1 8 [(.int .i64 (.ofNat 0))] k16 k16),none⟩,
⟨d1,.p (.mv t3),none⟩])
 (.seq (.seq (.ops [⟨d4,.p (.mv t1),none⟩,
⟨d5,.p (.lenSl t4),none⟩,
⟨d6,.p (.mv k0),none⟩])
 (.block 0 (.loop (.seq (.ops [⟨d7,.p (.bin .lss t6 t5),none⟩])
 (.seq (.cond t7 .skip
 (.exit 0))
 (.seq (.block 1 (.seq (.ops [⟨d8,.p (.mv t6),none⟩,
⟨d2,.p (.mv t8),none⟩])
 (.ops [⟨d9,.p (.mv t1),none⟩,
⟨d10,.p (.mv t2),none⟩,
⟨d11,.p (.iaddrS 1 t9 t10),none⟩,
⟨none,.w (.st 1 t11 (.c (.int .i64 (.negSucc 0)))),none⟩])))
 (.ops [⟨d12,.p (.bin .add t6 k1),none⟩,
⟨d6,.p (.mv t12),none⟩])))))))
 (.seq (.ops [⟨d13,.p (.mv t1),none⟩,
⟨d0,.p (.mv t13),none⟩])
 .ret))))⟩
theorem c84 : Go.Ev.EntOk Go.Proofs.Tryz.prog (84, f84) := ⟨Go.Proofs.Tryz.f84, Go.Proofs.Tryz.func84, by kernel_rfl, Go.Proofs.Tryz.call84⟩
def f85 : IFunc := ⟨4, [.t p8], (.seq (.ops [⟨d5,.a (.box 36 t1),none⟩,
⟨d8,.p (.mv (.c .nils)),none⟩])
 (.seq (.reg [⟨[0],⟨d12,.p (.mv t0),none⟩,0,0⟩,
⟨[1],⟨d13,.p (.nilck t12),none⟩,0,0⟩,
⟨[2],⟨d14,.p (.faddr 1 t13),none⟩,0,0⟩,
⟨[3],⟨d15,.r (.ldS t14),none⟩,0,0⟩,
⟨[4],⟨d16,.p (.faddr 0 t5),none⟩,0,0⟩,
⟨[5],⟨d17,.r (.ldS t16),none⟩,0,0⟩,
⟨[6],⟨d18,.p (.mv t0),none⟩,0,0⟩,
⟨[7],⟨d19,.p (.nilck t18),none⟩,0,0⟩,
⟨[8],⟨d20,.p (.faddr 2 t19),none⟩,0,0⟩,
⟨[9],⟨d21,.r (.ldS t20),none⟩,0,0⟩,
⟨[10],⟨d22,.p (.mv t2),none⟩,0,0⟩,
⟨[11],⟨d23,.p (.build [(.int .i64 (.ofNat 0)),(.int .i64 (.ofNat 0))] [(0, 1, t21),(1, 1, t22)]),none⟩,0,0⟩,
⟨[12],⟨d24,.p (.mv t3),none⟩,0,0⟩,
⟨[13],⟨d25,.p (.build [(.int .i64 (.ofNat 0)),(.int .i64 (.ofNat 0)),(.int .i64 (.ofNat 0)),(.int .i64 (.ofNat 0)),(.int .i64 (.ofNat 0)),(.int .i64 (.ofNat 0)),(.int .i64 (.ofNat 0)),(.int .i64 (.ofNat 0)),(.int .i64 (.ofNat 0)),.nils,(.int .i64 (.ofNat 0)),.nils,(.str []),(.int .i64 (.ofNat 0)),(.int .i64 (.ofNat 0)),(.int .i64 (.ofNat 0)),(.int .i64 (.ofNat 0)),(.int .i64 (.ofNat 0)),(.bool false),(.bool false)] [(0, 1, k14),(1, 2, t23),(6, 1, t24)]),none⟩,0,0⟩,
⟨[14],⟨d26,.call p17 [t15,t17,t25,k0],none⟩,0,0⟩,
⟨[15],⟨d11,.p (.mv t26),none⟩,1,1⟩,
⟨[16],⟨d27,.p (.ext t11 0),none⟩,1,1⟩,
⟨[18],⟨d9,.a (.alloc 52 [(.int .i64 (.ofNat 0)),(.str []),(.int .i64 (.ofNat 0)),.nils,(.int .i64 (.ofNat 0)),.nils,.nils,.nils]),none⟩,0,1⟩,
⟨[19],⟨none,.w (.st 8 t9 t27),none⟩,1,1⟩,
⟨[17],⟨d28,.p (.ext t11 1),none⟩,1,2⟩,
⟨[20],⟨d10,.p (.mv t28),none⟩,2,2⟩])
 (.seq (.reg [⟨[0],⟨d29,.p (.faddr 1 t9),none⟩,0,0⟩,
⟨[1],⟨d30,.r (.ldS t29),none⟩,0,0⟩,
⟨[2],⟨d31,.p (.mv t3),none⟩,0,0⟩,
⟨[3],⟨d32,.p (.faddr 1 t9),none⟩,0,0⟩,
⟨[4],⟨d33,.r (.ldS t32),none⟩,0,0⟩,
⟨[5],⟨d34,.p (.lenStr t33),none⟩,0,0⟩,
⟨[6],⟨d35,.p (.bin .sub t31 t34),none⟩,0,0⟩,
⟨[7],⟨d36,.a (.mkslice 5 1 1 [(.int .u8 (.ofNat 0))] t35 t35),none⟩,0,0⟩,
⟨[8],⟨d37,.r (.b2s t36),none⟩,0,0⟩,
⟨[9],⟨d38,.p (.bin .add t30 t37),none⟩,0,0⟩,
⟨[10],⟨d39,.call p145 [t38],none⟩,0,0⟩,
⟨[11],⟨d8,.p (.mv t39),none⟩,1,1⟩])
 .ret)))⟩
theorem c85 : Go.Ev.EntOk Go.Proofs.Tryz.prog (85, f85) := ⟨Go.Proofs.Tryz.f85, Go.Proofs.Tryz.func85, by kernel_rfl, Go.Proofs.Tryz.call85⟩
def f86 : IFunc := ⟨1, [.t p2], (.seq (.ops [⟨d2,.p (.mv k0),none⟩])
 (.seq (.seq (.ops [⟨d3,.p (.mv t0),none⟩,
⟨d4,.p (.eqp false t3 (.c .nilp)),none⟩])
 (.cond t4 (.seq (.ops [⟨d2,.p (.mv k0),none⟩])
 .ret)
 .skip))
 (.seq (.ops [⟨d5,.p (.mv t0),none⟩,
⟨d6,.p (.nilck t5),none⟩,
⟨d7,.p (.faddr 2 t6),none⟩,
⟨d8,.r (.ldS t7),none⟩,
⟨d2,.p (.mv t8),none⟩])
 .ret)))⟩
theorem c86 : Go.Ev.EntOk Go.Proofs.Tryz.prog (86, f86) := ⟨Go.Proofs.Tryz.f86, Go.Proofs.Tryz.func86, by kernel_rfl, Go.Proofs.Tryz.call86⟩
def f87 : IFunc := ⟨0, [.cA p0 3], (.seq (.ops [⟨d0,.a (.alloc 202 [(.int .i64 (.ofNat 0)),.nilf,.nilf]),none⟩])
 (.seq (.ops [⟨d1,.p (.build [(.int .i64 (.ofNat 0)),.nilf,.nilf] [(0, 1, k5),(1, 1, (.c (.fn p146 [] []))),(2, 1, (.c (.fn p147 [] [])))]),none⟩,
⟨none,.w (.st 3 t0 t1),none⟩])
 .ret))⟩
theorem c87 : Go.Ev.EntOk Go.Proofs.Tryz.prog (87, f87) := ⟨Go.Proofs.Tryz.f87, Go.Proofs.Tryz.func87, by kernel_rfl, Go.Proofs.Tryz.call87⟩
def f88 : IFunc := ⟨2, [.t p4], (.seq (.ops [⟨d2,.a (.box 202 t0),none⟩,
⟨d3,.a (.box 77 t1),none⟩,
⟨d4,.p (.mv (.c (.str []))),none⟩])
 (.seq (.ops [⟨d5,.p (.faddr 2 t2),none⟩,
⟨d6,.r (.ldS t5),none⟩,
⟨d7,.r (.ldA 6 t3),none⟩,
⟨d8,.callv t6 [t7],none⟩,
⟨d9,.call p132 [t8],none⟩,
⟨d4,.p (.mv t9),none⟩])
 .ret))⟩
theorem c88 : Go.Ev.EntOk Go.Proofs.Tryz.prog (88, f88) := ⟨Go.Proofs.Tryz.f88, Go.Proofs.Tryz.func88, by kernel_rfl, Go.Proofs.Tryz.call88⟩
def f89 : IFunc := ⟨3, [], (.seq (.ops [⟨d4,.a (.box 36 t1),none⟩])
 (.reg [⟨[6],⟨d12,.p (.mv t0),none⟩,0,0⟩,
⟨[7],⟨d13,.p (.mv t0),none⟩,0,0⟩,
⟨[8],⟨d14,.p (.nilck t13),none⟩,0,0⟩,
⟨[9],⟨d15,.p (.faddr 2 t14),none⟩,0,0⟩,
⟨[10],⟨d16,.r (.ldS t15),none⟩,0,0⟩,
⟨[11],⟨d17,.call p41 [t12,t16],none⟩,0,0⟩,
⟨[0],⟨d6,.p (.mv t0),none⟩,0,1⟩,
⟨[1],⟨d7,.p (.nilck t6),none⟩,0,1⟩,
⟨[2],⟨d8,.p (.faddr 0 t7),none⟩,0,1⟩,
⟨[3],⟨d9,.r (.ldS t8),none⟩,0,1⟩,
⟨[4],⟨d10,.p (.faddr 0 t4),none⟩,0,1⟩,
⟨[5],⟨d11,.r (.ldS t10),none⟩,0,1⟩,
⟨[12],⟨d18,.p (.mv t2),none⟩,0,1⟩,
⟨[13],⟨d19,.p (.bin .sub t18 k1),none⟩,0,1⟩,
⟨[14],⟨d20,.p (.bin .mul k40 t19),none⟩,0,1⟩,
⟨[15],⟨d21,.p (.build [(.int .i64 (.ofNat 0)),(.int .i64 (.ofNat 0)),(.int .i64 (.ofNat 0)),(.int .i64 (.ofNat 0)),(.int .i64 (.ofNat 0)),(.int .i64 (.ofNat 0)),(.int .i64 (.ofNat 0)),(.int .i64 (.ofNat 0)),(.int .i64 (.ofNat 0)),.nils,(.int .i64 (.ofNat 0)),.nils,(.str []),(.int .i64 (.ofNat 0)),(.int .i64 (.ofNat 0)),(.int .i64 (.ofNat 0)),(.int .i64 (.ofNat 0)),(.int .i64 (.ofNat 0)),(.bool false),(.bool false)] [(0, 1, k23),(1, 2, t17),(5, 1, t20)]),none⟩,1,1⟩,
⟨[16],⟨d22,.call p17 [t9,t11,t21,k0],none⟩,1,1⟩]))⟩
theorem c89 : Go.Ev.EntOk Go.Proofs.Tryz.prog (89, f89) := ⟨Go.Proofs.Tryz.f89, Go.Proofs.Tryz.func89, by kernel_rfl, Go.Proofs.Tryz.call89⟩
def f90 : IFunc := ⟨3, [.cA p6 2,.cA p7 2,.t p8], (.seq (.ops [⟨d3,.a (.box 49 t0),none⟩,
⟨d4,.a (.box 49 t1),none⟩,
⟨d6,.a (.alloc 49 [(.int .i64 (.ofNat 0)),.nils]),none⟩,
⟨d7,.a (.alloc 49 [(.int .i64 (.ofNat 0)),.nils]),none⟩,
⟨d8,.p (.mv k0),none⟩])
 (.seq (.block 0 (.seq (.ops [⟨d12,.p (.mv t2),none⟩,
⟨d13,.p (.bin .lss t12 k1),none⟩,
⟨d14,.p (.mv t13),none⟩,
⟨d15,.p (.mv t2),(some (p14, false))⟩,
⟨d16,.p (.bin .gtr t15 (.c (.int .i64 (.ofNat 2305843009213693951)))),(some (p14, false))⟩,
⟨d17,.p (.pick t14 (.c (.bool true)) t16),none⟩,
⟨d11,.p (.mv t17),none⟩])
 (.cond t11 (.seq (.reg [⟨[0],⟨d18,.r (.ldA 2 t6),none⟩,0,0⟩,
⟨[2],⟨none,.w (.st 2 t6 t18),none⟩,0,0⟩,
⟨[1],⟨d19,.r (.ldA 2 t7),none⟩,0,1⟩,
⟨[3],⟨none,.w (.st 2 t7 t19),none⟩,1,1⟩,
⟨[4],⟨d8,.p (.mv k1),none⟩,2,2⟩])
 .ret)
 (.seq (.ops [⟨d21,.r (.ldA 2 t3),none⟩,
⟨d22,.p (.mv t2),none⟩,
⟨d23,.call p148 [t21,t22],none⟩,
⟨d24,.p (.mv t23),none⟩,
⟨d25,.r (.ldA 2 t4),(some (p24, false))⟩,
⟨d26,.p (.mv t2),(some (p24, false))⟩,
⟨d27,.call p148 [t25,t26],(some (p24, false))⟩,
⟨d28,.p (.pick t24 (.c (.bool true)) t27),none⟩,
⟨d20,.p (.mv t28),none⟩])
 (.cond t20 (.seq (.reg [⟨[0],⟨d29,.r (.ldA 2 t6),none⟩,0,0⟩,
⟨[2],⟨none,.w (.st 2 t6 t29),none⟩,0,0⟩,
⟨[1],⟨d30,.r (.ldA 2 t7),none⟩,0,1⟩,
⟨[3],⟨none,.w (.st 2 t7 t30),none⟩,1,1⟩,
⟨[4],⟨d8,.p (.mv k8),none⟩,2,2⟩])
 .ret)
 .skip)))))
 (.seq (.ops [⟨d32,.r (.ldA 2 t3),none⟩,
⟨d33,.p (.mv t2),none⟩,
⟨d34,.call p149 [t32,t33,k0],none⟩,
⟨d31,.p (.mv t34),none⟩,
⟨d35,.p (.ext t31 0),none⟩,
⟨d36,.p (.ext t31 1),none⟩,
⟨d9,.a (.alloc 49 [(.int .i64 (.ofNat 0)),.nils]),none⟩,
⟨none,.w (.st 2 t9 t35),none⟩,
⟨d8,.p (.mv t36),none⟩])
 (.seq (.seq (.ops [⟨d37,.p (.mv t8),none⟩,
⟨d38,.p (.bin .neq t37 k0),none⟩])
 (.cond t38 (.seq (.ops [⟨d39,.p (.build [(.int .i64 (.ofNat 0)),.nils] []),none⟩,
⟨d40,.p (.build [(.int .i64 (.ofNat 0)),.nils] []),none⟩,
⟨d41,.p (.mv t8),none⟩,
⟨none,.w (.st 2 t6 t39),none⟩,
⟨none,.w (.st 2 t7 t40),none⟩,
⟨d8,.p (.mv t41),none⟩])
 .ret)
 .skip))
 (.seq (.ops [⟨d43,.r (.ldA 2 t4),none⟩,
⟨d44,.p (.mv t2),none⟩,
⟨d45,.call p149 [t43,t44,k4],none⟩,
⟨d42,.p (.mv t45),none⟩,
⟨d46,.p (.ext t42 0),none⟩,
⟨d47,.p (.ext t42 1),none⟩,
⟨d10,.a (.alloc 49 [(.int .i64 (.ofNat 0)),.nils]),none⟩,
⟨none,.w (.st 2 t10 t46),none⟩,
⟨d8,.p (.mv t47),none⟩])
 (.seq (.seq (.ops [⟨d48,.p (.mv t8),none⟩,
⟨d49,.p (.bin .neq t48 k0),none⟩])
 (.cond t49 (.seq (.ops [⟨d50,.p (.build [(.int .i64 (.ofNat 0)),.nils] []),none⟩,
⟨d51,.p (.build [(.int .i64 (.ofNat 0)),.nils] []),none⟩,
⟨d52,.p (.mv t8),none⟩,
⟨none,.w (.st 2 t6 t50),none⟩,
⟨none,.w (.st 2 t7 t51),none⟩,
⟨d8,.p (.mv t52),none⟩])
 .ret)
 .skip))
 (.seq (.reg [⟨[0],⟨d53,.r (.ldA 2 t9),none⟩,0,0⟩,
⟨[2],⟨none,.w (.st 2 t6 t53),none⟩,0,0⟩,
⟨[1],⟨d54,.r (.ldA 2 t10),none⟩,0,1⟩,
⟨[3],⟨none,.w (.st 2 t7 t54),none⟩,1,1⟩,
⟨[4],⟨d8,.p (.mv k0),none⟩,2,2⟩])
 .ret)))))))⟩
theorem c90 : Go.Ev.EntOk Go.Proofs.Tryz.prog (90, f90) := ⟨Go.Proofs.Tryz.f90, Go.Proofs.Tryz.func90, by kernel_rfl, Go.Proofs.Tryz.call90⟩
def f91 : IFunc := ⟨2, [], (.seq (.ops [⟨d3,.a (.box 49 t1),none⟩])
 (.reg [⟨[0],⟨d4,.p (.mv t0),none⟩,0,0⟩,
⟨[1],⟨d5,.p (.nilck t4),none⟩,0,0⟩,
⟨[2],⟨d6,.p (.faddr 0 t5),none⟩,0,0⟩,
⟨[3],⟨d7,.r (.ldS t6),none⟩,0,0⟩,
⟨[4],⟨d8,.p (.nilck t7),none⟩,0,0⟩,
⟨[5],⟨d9,.p (.faddr 0 t8),none⟩,0,0⟩,
⟨[6],⟨d10,.r (.ldS t9),none⟩,0,0⟩,
⟨[7],⟨d11,.p (.mv t0),none⟩,0,0⟩,
⟨[8],⟨d12,.p (.nilck t11),none⟩,0,0⟩,
⟨[9],⟨d13,.p (.faddr 21 t12),none⟩,0,0⟩,
⟨[10],⟨d14,.r (.ldS t13),none⟩,0,0⟩,
⟨[11],⟨d15,.r (.ldA 2 t3),none⟩,0,0⟩,
⟨[12],⟨d16,.call p150 [t10,t14,t15],none⟩,0,0⟩]))⟩
theorem c91 : Go.Ev.EntOk Go.Proofs.Tryz.prog (91, f91) := ⟨Go.Proofs.Tryz.f91, Go.Proofs.Tryz.func91, by kernel_rfl, Go.Proofs.Tryz.call91⟩
def f92 : IFunc := ⟨1, [.t p2], (.seq (.ops [⟨d2,.p (.mv (.c .nilp)),none⟩])
 (.seq (.reg [⟨[0],⟨d3,.p (.mv t0),none⟩,0,0⟩,
⟨[1],⟨d4,.p (.nilck t3),none⟩,0,0⟩,
⟨[2],⟨d5,.p (.faddr 0 t4),none⟩,0,0⟩,
⟨[3],⟨d6,.r (.ldS t5),none⟩,0,0⟩,
⟨[4],⟨d7,.p (.nilck t6),none⟩,0,0⟩,
⟨[5],⟨d8,.p (.faddr 2 t7),none⟩,0,0⟩,
⟨[6],⟨d9,.r (.ldS t8),none⟩,0,0⟩,
⟨[7],⟨d10,.p (.mv t0),none⟩,0,0⟩,
⟨[8],⟨d11,.p (.nilck t10),none⟩,0,0⟩,
⟨[9],⟨d12,.p (.faddr 21 t11),none⟩,0,0⟩,
⟨[10],⟨d13,.r (.ldS t12),none⟩,0,0⟩,
⟨[11],⟨d14,.r (.look .nilp t9 t13 false),none⟩,0,0⟩,
⟨[12],⟨d2,.p (.mv t14),none⟩,0,0⟩])
 .ret))⟩
theorem c92 : Go.Ev.EntOk Go.Proofs.Tryz.prog (92, f92) := ⟨Go.Proofs.Tryz.f92, Go.Proofs.Tryz.func92, by kernel_rfl, Go.Proofs.Tryz.call92⟩
def f96 : IFunc := ⟨5, [.t p10], (.seq (.ops [⟨d5,.a (.box 129 t0),none⟩,
⟨d10,.p (.mv k0),none⟩])
 (.seq (.ops [⟨d20,.r (.ldS t5),none⟩,
⟨d21,.p (.mv t1),none⟩,
⟨d22,.call p102 [t20,t21],none⟩,
⟨d19,.p (.mv t22),none⟩,
⟨d23,.p (.ext t19 0),none⟩,
⟨d24,.p (.ext t19 1),none⟩,
⟨d11,.a (.alloc 62 [(.int .i64 (.ofNat 0)),(.int .i64 (.ofNat 0)),(.int .i64 (.ofNat 0)),(.int .i64 (.ofNat 0)),(.int .i64 (.ofNat 0)),(.int .i64 (.ofNat 0)),.nils]),none⟩,
⟨none,.w (.st 7 t11 t23),none⟩,
⟨d12,.p (.mv t24),none⟩])
 (.seq (.seq (.ops [⟨d25,.p (.mv t12),none⟩,
⟨d26,.p (.bin .neq t25 k0),none⟩])
 (.cond t26 (.seq (.ops [⟨d27,.p (.mv t12),none⟩,
⟨d10,.p (.mv t27),none⟩])
 .ret)
 .skip))
 (.seq (.ops [⟨d28,.p (.mv t2),none⟩,
⟨d29,.p (.bin .eql t28 k4),none⟩,
⟨d30,.p (.mv t29),none⟩,
⟨d31,.p (.mv t2),(some (p30, false))⟩,
⟨d32,.p (.bin .eql t31 k5),(some (p30, false))⟩,
⟨d33,.p (.pick t30 (.c (.bool true)) t32),none⟩,
⟨d13,.p (.mv t33),none⟩])
 (.seq (.block 0 (.seq (.seq (.ops [⟨d35,.p (.mv t13),none⟩,
⟨d36,.p (.not t35),none⟩,
⟨d37,.p (.mv t36),none⟩,
⟨d38,.r (.ldS t5),(some (p37, true))⟩,
⟨d39,.p (.nilck t38),(some (p37, true))⟩,
⟨d40,.p (.faddr 1 t39),(some (p37, true))⟩,
⟨d41,.p (.faddr 8 t40),(some (p37, true))⟩,
⟨d42,.r (.ldA 2 t41),(some (p37, true))⟩,
⟨d43,.call p155 [t42],(some (p37, true))⟩,
⟨d44,.p (.not t43),(some (p37, true))⟩,
⟨d45,.p (.pick t37 t44 (.c (.bool false))),none⟩,
⟨d34,.p (.mv t45),none⟩])
 (.cond t34 .skip
 (.ops [⟨d46,.p (.mv t13),none⟩,
⟨d47,.p (.mv t46),none⟩,
⟨d48,.r (.ldS t5),(some (p47, true))⟩,
⟨d49,.p (.nilck t48),(some (p47, true))⟩,
⟨d50,.p (.faddr 1 t49),(some (p47, true))⟩,
⟨d51,.p (.faddr 8 t50),(some (p47, true))⟩,
⟨d52,.r (.ldA 2 t51),(some (p47, true))⟩,
⟨d53,.call p152 [t52],(some (p47, true))⟩,
⟨d54,.p (.not t53),(some (p47, true))⟩,
⟨d55,.p (.mv t54),(some (p47, true))⟩,
⟨d56,.r (.ldS t5),(some (p55, false))⟩,
⟨d57,.p (.nilck t56),(some (p55, false))⟩,
⟨d58,.p (.faddr 1 t57),(some (p55, false))⟩,
⟨d59,.p (.faddr 10 t58),(some (p55, false))⟩,
⟨d60,.r (.ldA 2 t59),(some (p55, false))⟩,
⟨d61,.call p155 [t60],(some (p55, false))⟩,
⟨d62,.p (.not t61),(some (p55, false))⟩,
⟨d63,.p (.pick t55 (.c (.bool true)) t62),(some (p47, true))⟩,
⟨d64,.p (.pick t47 t63 (.c (.bool false))),none⟩,
⟨d34,.p (.mv t64),none⟩])))
 (.cond t34 (.seq (.ops [⟨d10,.p (.mv k1),none⟩])
 .ret)
 (.seq (.seq (.reg [⟨[0],⟨d66,.r (.ldS t5),none⟩,0,0⟩,
⟨[1],⟨d67,.p (.nilck t66),none⟩,0,0⟩,
⟨[2],⟨d68,.p (.faddr 22 t67),none⟩,0,0⟩,
⟨[3],⟨d69,.r (.ldA 2 t68),none⟩,0,0⟩,
⟨[4],⟨d70,.r (.ldS t5),none⟩,0,0⟩,
⟨[5],⟨d71,.p (.nilck t70),none⟩,0,0⟩,
⟨[6],⟨d72,.p (.faddr 24 t71),none⟩,0,0⟩,
⟨[7],⟨d73,.r (.ldA 2 t72),none⟩,0,0⟩,
⟨[8],⟨d74,.p (.faddr 5 t11),none⟩,0,0⟩,
⟨[9],⟨d75,.r (.ldA 2 t74),none⟩,0,0⟩,
⟨[10],⟨d76,.r (.ldS t5),none⟩,0,0⟩,
⟨[11],⟨d77,.p (.nilck t76),none⟩,0,0⟩,
⟨[12],⟨d78,.p (.faddr 1 t77),none⟩,0,0⟩,
⟨[13],⟨d79,.p (.faddr 8 t78),none⟩,0,0⟩,
⟨[14],⟨d80,.r (.ldA 2 t79),none⟩,0,0⟩,
⟨[15],⟨d81,.call p105 [t69,t73,t75,t80],none⟩,0,0⟩,
⟨[16],⟨d82,.p (.bin .neq t81 k0),none⟩,1,1⟩,
⟨[17],⟨d65,.p (.mv t82),none⟩,1,1⟩])
 (.cond t65 .skip
 (.reg [⟨[0],⟨d83,.p (.mv t13),none⟩,0,0⟩,
⟨[1],⟨d84,.p (.mv t83),none⟩,0,0⟩,
⟨[2],⟨d85,.r (.ldS t5),(some (p84, true))⟩,0,0⟩,
⟨[3],⟨d86,.p (.nilck t85),(some (p84, true))⟩,0,0⟩,
⟨[4],⟨d87,.p (.faddr 22 t86),(some (p84, true))⟩,0,0⟩,
⟨[5],⟨d88,.r (.ldA 2 t87),(some (p84, true))⟩,0,0⟩,
⟨[6],⟨d89,.r (.ldS t5),(some (p84, true))⟩,0,0⟩,
⟨[7],⟨d90,.p (.nilck t89),(some (p84, true))⟩,0,0⟩,
⟨[8],⟨d91,.p (.faddr 24 t90),(some (p84, true))⟩,0,0⟩,
⟨[9],⟨d92,.r (.ldA 2 t91),(some (p84, true))⟩,0,0⟩,
⟨[10],⟨d93,.r (.ldS t5),(some (p84, true))⟩,0,0⟩,
⟨[11],⟨d94,.p (.nilck t93),(some (p84, true))⟩,0,0⟩,
⟨[12],⟨d95,.p (.faddr 1 t94),(some (p84, true))⟩,0,0⟩,
⟨[13],⟨d96,.p (.faddr 8 t95),(some (p84, true))⟩,0,0⟩,
⟨[14],⟨d97,.r (.ldA 2 t96),(some (p84, true))⟩,0,0⟩,
⟨[15],⟨d98,.r (.ldS t5),(some (p84, true))⟩,0,0⟩,
⟨[16],⟨d99,.p (.nilck t98),(some (p84, true))⟩,0,0⟩,
⟨[17],⟨d100,.p (.faddr 1 t99),(some (p84, true))⟩,0,0⟩,
⟨[18],⟨d101,.p (.faddr 10 t100),(some (p84, true))⟩,0,0⟩,
⟨[19],⟨d102,.r (.ldA 2 t101),(some (p84, true))⟩,0,0⟩,
⟨[20],⟨d103,.call p158 [t88,t92,t97,t102],(some (p84, true))⟩,0,0⟩,
⟨[21],⟨d104,.p (.bin .neq t103 k0),(some (p84, true))⟩,1,1⟩,
⟨[22],⟨d105,.p (.pick t84 t104 (.c (.bool false))),none⟩,1,1⟩,
⟨[23],⟨d65,.p (.mv t105),none⟩,1,1⟩])))
 (.cond t65 (.seq (.ops [⟨d10,.p (.mv k3),none⟩])
 .ret)
 .skip)))))
 (.seq (.ops [⟨d106,.p (.mkfn p159 [] [t5]),none⟩,
⟨d14,.p (.mv t106),none⟩])
 (.seq (.seq (.ops [⟨d107,.p (.mv t4),none⟩,
⟨d108,.r (.ldS t5),none⟩,
⟨d109,.p (.nilck t108),none⟩,
⟨d110,.p (.faddr 1 t109),none⟩,
⟨d111,.p (.faddr 5 t110),none⟩,
⟨d112,.r (.ldS t111),none⟩,
⟨d113,.p (.bin .lss t112 k1),none⟩,
⟨d114,.p (.mv t113),none⟩,
⟨d115,.r (.ldS t5),(some (p114, false))⟩,
⟨d116,.p (.nilck t115),(some (p114, false))⟩,
⟨d117,.p (.faddr 1 t116),(some (p114, false))⟩,
⟨d118,.p (.faddr 5 t117),(some (p114, false))⟩,
⟨d119,.r (.ldS t118),(some (p114, false))⟩,
⟨d120,.p (.bin .gtr t119 (.c (.int .i64 (.ofNat 1099511627776)))),(some (p114, false))⟩,
⟨d121,.p (.pick t114 (.c (.bool true)) t120),none⟩,
⟨d122,.call p98 [t121,k1],none⟩,
⟨d123,.p (.mv t14),none⟩,
⟨d124,.a (.bslice 134 1 2 [.nilf,.nilf] [(0, 1, t122),(1, 1, t123)]),none⟩,
⟨d125,.w (.app 134 1 8 t107 t124),none⟩,
⟨d126,.p (.lenSl t125),none⟩,
⟨d127,.p (.mv k0),none⟩])
 (.block 1 (.loop (.seq (.ops [⟨d128,.p (.bin .lss t127 t126),none⟩])
 (.seq (.cond t128 .skip
 (.exit 1))
 (.seq (.block 2 (.seq (.ops [⟨d129,.p (.iaddrS 1 t125 t127),none⟩,
⟨d130,.r (.ldS t129),none⟩,
⟨d16,.p (.mv t130),none⟩])
 (.seq (.ops [⟨d131,.p (.mv t16),none⟩,
⟨d132,.callv t131 [],none⟩,
⟨d17,.p (.mv t132),none⟩])
 (.seq (.ops [⟨d133,.p (.mv t17),none⟩,
⟨d134,.p (.bin .neq t133 k0),none⟩])
 (.cond t134 (.seq (.ops [⟨d135,.p (.mv t17),none⟩,
⟨d10,.p (.mv t135),none⟩])
 .ret)
 .skip)))))
 (.ops [⟨d136,.p (.bin .add t127 k1),none⟩,
⟨d127,.p (.mv t136),none⟩])))))))
 (.seq (.seq (.reg [⟨[0],⟨d137,.r (.ldS t5),none⟩,0,0⟩,
⟨[1],⟨d138,.p (.nilck t137),none⟩,0,0⟩,
⟨[2],⟨d139,.p (.faddr 0 t138),none⟩,0,0⟩,
⟨[3],⟨d140,.r (.ldS t139),none⟩,0,0⟩,
⟨[4],⟨d141,.p (.nilck t140),none⟩,0,0⟩,
⟨[5],⟨d142,.p (.faddr 0 t141),none⟩,0,0⟩,
⟨[6],⟨d143,.r (.ldS t142),none⟩,0,0⟩,
⟨[7],⟨d144,.p (.mv t1),none⟩,0,0⟩,
⟨[8],⟨d145,.r (.ldS t5),none⟩,0,0⟩,
⟨[9],⟨d146,.p (.nilck t145),none⟩,0,0⟩,
⟨[10],⟨d147,.p (.faddr 26 t146),none⟩,0,0⟩,
⟨[11],⟨d148,.r (.ldS t147),none⟩,0,0⟩,
⟨[12],⟨d149,.p (.mv t2),none⟩,0,0⟩,
⟨[13],⟨d150,.r (.ldS t5),none⟩,0,0⟩,
⟨[14],⟨d151,.p (.nilck t150),none⟩,0,0⟩,
⟨[15],⟨d152,.p (.faddr 1 t151),none⟩,0,0⟩,
⟨[16],⟨d153,.p (.faddr 5 t152),none⟩,0,0⟩,
⟨[17],⟨d154,.r (.ldS t153),none⟩,0,0⟩,
⟨[18],⟨d155,.r (.ldS t5),none⟩,0,0⟩,
⟨[19],⟨d156,.p (.nilck t155),none⟩,0,0⟩,
⟨[20],⟨d157,.p (.faddr 1 t156),none⟩,0,0⟩,
⟨[21],⟨d158,.p (.faddr 8 t157),none⟩,0,0⟩,
⟨[22],⟨d159,.r (.ldA 2 t158),none⟩,0,0⟩,
⟨[23],⟨d160,.call p142 [t143,t144,t148,t149,t154,t159],none⟩,0,0⟩,
⟨[24],⟨d18,.p (.mv t160),none⟩,1,1⟩])
 (.seq (.ops [⟨d161,.p (.mv t18),none⟩,
⟨d162,.p (.bin .neq t161 k0),none⟩])
 (.cond t162 (.seq (.ops [⟨d163,.p (.mv t18),none⟩,
⟨d10,.p (.mv t163),none⟩])
 .ret)
 .skip)))
 (.seq (.reg [⟨[0],⟨d164,.r (.ldS t5),none⟩,0,0⟩,
⟨[1],⟨d165,.p (.nilck t164),none⟩,0,0⟩,
⟨[2],⟨d166,.p (.faddr 0 t165),none⟩,0,0⟩,
⟨[3],⟨d167,.r (.ldS t166),none⟩,0,0⟩,
⟨[4],⟨d168,.p (.nilck t167),none⟩,0,0⟩,
⟨[5],⟨d169,.p (.faddr 2 t168),none⟩,0,0⟩,
⟨[6],⟨d170,.r (.ldS t169),none⟩,0,0⟩,
⟨[7],⟨d171,.r (.ldS t5),none⟩,0,0⟩,
⟨[8],⟨d172,.p (.nilck t171),none⟩,0,0⟩,
⟨[9],⟨d173,.p (.faddr 26 t172),none⟩,0,0⟩,
⟨[10],⟨d174,.r (.ldS t173),none⟩,0,0⟩,
⟨[11],⟨d175,.r (.ldS t5),none⟩,0,0⟩,
⟨[12],⟨d176,.p (.nilck t175),none⟩,0,0⟩,
⟨[13],⟨d177,.p (.faddr 0 t176),none⟩,0,0⟩,
⟨[14],⟨d178,.r (.ldS t177),none⟩,0,0⟩,
⟨[15],⟨d179,.p (.nilck t178),none⟩,0,0⟩,
⟨[16],⟨d180,.p (.faddr 3 t179),none⟩,0,0⟩,
⟨[17],⟨d181,.r (.ldS t180),none⟩,0,0⟩,
⟨[18],⟨d182,.r (.ldS t5),none⟩,0,0⟩,
⟨[19],⟨d183,.p (.nilck t182),none⟩,0,0⟩,
⟨[20],⟨d184,.p (.faddr 26 t183),none⟩,0,0⟩,
⟨[21],⟨d185,.r (.ldS t184),none⟩,0,0⟩,
⟨[23],⟨d187,.w (.ment .nilp t170 t174),none⟩,0,0⟩,
⟨[22],⟨d186,.p (.mv t3),none⟩,0,1⟩,
⟨[24],⟨d188,.p (.ext t187 1),none⟩,1,1⟩,
⟨[25],⟨none,.w (.mest t170 t188 t186),none⟩,1,1⟩,
⟨[26],⟨d189,.w (.ment (.bool false) t181 t185),none⟩,2,2⟩,
⟨[27],⟨d190,.p (.ext t189 1),none⟩,3,3⟩,
⟨[28],⟨none,.w (.mest t181 t190 (.c (.bool true))),none⟩,3,3⟩])
 (.seq (.reg [⟨[0],⟨d191,.r (.ldS t5),none⟩,0,0⟩,
⟨[1],⟨d192,.r (.ldS t5),none⟩,0,0⟩,
⟨[2],⟨d193,.p (.nilck t192),none⟩,0,0⟩,
⟨[3],⟨d194,.p (.faddr 26 t193),none⟩,0,0⟩,
⟨[4],⟨d195,.r (.ldS t194),none⟩,0,0⟩,
⟨[5],⟨d196,.p (.nilck t191),none⟩,0,0⟩,
⟨[6],⟨d197,.p (.faddr 27 t196),none⟩,0,0⟩,
⟨[7],⟨d198,.p (.faddr 0 t197),none⟩,0,0⟩,
⟨[8],⟨none,.w (.st 1 t198 t195),none⟩,0,0⟩])
 (.seq (.ops [⟨d10,.p (.mv k0),none⟩])
 .ret)))))))))))⟩
theorem c96 : Go.Ev.EntOk Go.Proofs.Tryz.prog (96, f96) := ⟨Go.Proofs.Tryz.f96, Go.Proofs.Tryz.func96, by kernel_rfl, Go.Proofs.Tryz.call96⟩
def f97 : IFunc := ⟨1, [.t p2,.t p3], (.seq (.ops [⟨d2,.p (.mv (.c .nilp)),none⟩,
⟨d3,.p (.mv k0),none⟩])
 (.seq (.ops [⟨d6,.p (.build [(.int .i64 (.ofNat 0)),.nils,.nils] []),none⟩,
⟨d7,.a (.box 270 t6),none⟩,
⟨d4,.p (.mv t7),none⟩])
 (.seq (.seq (.ops [⟨d8,.p (.mv t4),none⟩,
⟨d9,.p (.mv t0),none⟩,
⟨d10,.call p111 [t8,t9],none⟩,
⟨d5,.p (.mv t10),none⟩])
 (.seq (.ops [⟨d11,.p (.mv t5),none⟩,
⟨d12,.p (.bin .neq t11 k0),none⟩])
 (.cond t12 (.seq (.ops [⟨d13,.p (.mv t5),none⟩,
⟨d2,.p (.mv (.c .nilp)),none⟩,
⟨d3,.p (.mv t13),none⟩])
 .ret)
 .skip)))
 (.seq (.ops [⟨d14,.p (.mv t4),none⟩,
⟨d2,.p (.mv t14),none⟩,
⟨d3,.p (.mv k0),none⟩])
 .ret))))⟩
theorem c97 : Go.Ev.EntOk Go.Proofs.Tryz.prog (97, f97) := ⟨Go.Proofs.Tryz.f97, Go.Proofs.Tryz.func97, by kernel_rfl, Go.Proofs.Tryz.call97⟩
def f98 : IFunc := ⟨2, [.t p4], (.seq (.ops [⟨d2,.a (.box 4 t0),none⟩,
⟨d3,.a (.box 27 t1),none⟩,
⟨d4,.p (.mv (.c .nilf)),none⟩])
 (.seq (.ops [⟨d5,.p (.mkfn p160 [] [t2,t3]),none⟩,
⟨d4,.p (.mv t5),none⟩])
 .ret))⟩
theorem c98 : Go.Ev.EntOk Go.Proofs.Tryz.prog (98, f98) := ⟨Go.Proofs.Tryz.f98, Go.Proofs.Tryz.func98, by kernel_rfl, Go.Proofs.Tryz.call98⟩
def f99 : IFunc := ⟨4, [.t p8,.cA p9 7,.t p10], (.seq (.ops [⟨d5,.a (.box 56 t1),none⟩,
⟨d8,.p (.mv (.c .nilp)),none⟩,
⟨d9,.a (.alloc 62 [(.int .i64 (.ofNat 0)),(.int .i64 (.ofNat 0)),(.int .i64 (.ofNat 0)),(.int .i64 (.ofNat 0)),(.int .i64 (.ofNat 0)),(.int .i64 (.ofNat 0)),.nils]),none⟩,
⟨d10,.p (.mv k0),none⟩])
 (.seq (.ops [⟨d14,.p (.mv t0),none⟩,
⟨d15,.r (.ldA 2 t5),none⟩,
⟨d16,.call p103 [t14,t15],none⟩,
⟨d13,.p (.mv t16),none⟩,
⟨d17,.p (.ext t13 0),none⟩,
⟨d18,.p (.ext t13 1),none⟩,
⟨d11,.a (.alloc 62 [(.int .i64 (.ofNat 0)),(.int .i64 (.ofNat 0)),(.int .i64 (.ofNat 0)),(.int .i64 (.ofNat 0)),(.int .i64 (.ofNat 0)),(.int .i64 (.ofNat 0)),.nils]),none⟩,
⟨none,.w (.st 7 t11 t17),none⟩,
⟨d12,.p (.mv t18),none⟩])
 (.seq (.block 0 (.seq (.ops [⟨d20,.p (.mv t12),none⟩,
⟨d21,.p (.bin .neq t20 k0),none⟩,
⟨d19,.p (.mv t21),none⟩])
 (.cond t19 (.seq (.reg [⟨[0],⟨d22,.r (.ldA 7 t11),none⟩,0,0⟩,
⟨[2],⟨d8,.p (.mv (.c .nilp)),none⟩,0,0⟩,
⟨[3],⟨none,.w (.st 7 t9 t22),none⟩,0,0⟩,
⟨[1],⟨d23,.p (.mv t12),none⟩,0,1⟩,
⟨[4],⟨d10,.p (.mv t23),none⟩,1,1⟩])
 .ret)
 (.seq (.ops [⟨d25,.p (.faddr 1 t11),none⟩,
⟨d26,.r (.ldS t25),none⟩,
⟨d27,.p (.mv t2),none⟩,
⟨d28,.p (.bin .neq t26 t27),none⟩,
⟨d24,.p (.mv t28),none⟩])
 (.cond t24 (.seq (.reg [⟨[0],⟨d29,.r (.ldA 7 t11),none⟩,0,0⟩,
⟨[1],⟨d8,.p (.mv (.c .nilp)),none⟩,0,0⟩,
⟨[2],⟨none,.w (.st 7 t9 t29),none⟩,0,0⟩,
⟨[3],⟨d10,.p (.mv k5),none⟩,1,1⟩])
 .ret)
 (.seq (.ops [⟨d31,.p (.mv t3),none⟩,
⟨d32,.p (.faddr 5 t11),none⟩,
⟨d33,.r (.ldA 2 t32),none⟩,
⟨d34,.callv t31 [t33],none⟩,
⟨d35,.p (.not t34),none⟩,
⟨d30,.p (.mv t35),none⟩])
 (.cond t30 (.seq (.reg [⟨[0],⟨d36,.r (.ldA 7 t11),none⟩,0,0⟩,
⟨[1],⟨d8,.p (.mv (.c .nilp)),none⟩,0,0⟩,
⟨[2],⟨none,.w (.st 7 t9 t36),none⟩,0,0⟩,
⟨[3],⟨d10,.p (.mv k3),none⟩,1,1⟩])
 .ret)
 .skip)))))))
 (.seq (.reg [⟨[0],⟨d37,.p (.mv t0),none⟩,0,0⟩,
⟨[1],⟨d38,.p (.nilck t37),none⟩,0,0⟩,
⟨[2],⟨d39,.p (.faddr 0 t38),none⟩,0,0⟩,
⟨[3],⟨d40,.r (.ldS t39),none⟩,0,0⟩,
⟨[4],⟨d41,.p (.nilck t40),none⟩,0,0⟩,
⟨[5],⟨d42,.p (.faddr 2 t41),none⟩,0,0⟩,
⟨[6],⟨d43,.r (.ldS t42),none⟩,0,0⟩,
⟨[7],⟨d44,.p (.faddr 1 t5),none⟩,0,0⟩,
⟨[8],⟨d45,.r (.ldS t44),none⟩,0,0⟩,
⟨[9],⟨d46,.r (.look .nilp t43 t45 false),none⟩,0,0⟩,
⟨[10],⟨d47,.r (.ldA 7 t11),none⟩,0,0⟩,
⟨[11],⟨d8,.p (.mv t46),none⟩,0,0⟩,
⟨[12],⟨none,.w (.st 7 t9 t47),none⟩,0,0⟩,
⟨[13],⟨d10,.p (.mv k0),none⟩,1,1⟩])
 .ret))))⟩
theorem c99 : Go.Ev.EntOk Go.Proofs.Tryz.prog (99, f99) := ⟨Go.Proofs.Tryz.f99, Go.Proofs.Tryz.func99, by kernel_rfl, Go.Proofs.Tryz.call99⟩
def f100 : IFunc := ⟨2, [.t p4], (.seq (.ops [⟨d3,.a (.box 49 t1),none⟩,
⟨d4,.p (.mv (.c (.bool false))),none⟩])
 (.seq (.reg [⟨[0],⟨d5,.p (.mv t0),none⟩,0,0⟩,
⟨[1],⟨d6,.p (.nilck t5),none⟩,0,0⟩,
⟨[2],⟨d7,.p (.faddr 22 t6),none⟩,0,0⟩,
⟨[3],⟨d8,.r (.ldA 2 t7),none⟩,0,0⟩,
⟨[4],⟨d9,.r (.ldA 2 t3),none⟩,0,0⟩,
⟨[5],⟨d10,.call p161 [t8,t9],none⟩,0,0⟩,
⟨[6],⟨d4,.p (.mv t10),none⟩,1,1⟩])
 .ret))⟩
theorem c100 : Go.Ev.EntOk Go.Proofs.Tryz.prog (100, f100) := ⟨Go.Proofs.Tryz.f100, Go.Proofs.Tryz.func100, by kernel_rfl, Go.Proofs.Tryz.call100⟩
def f102 : IFunc := ⟨2, [.cA p4 7,.t p5], (.seq (.ops [⟨d4,.a (.alloc 62 [(.int .i64 (.ofNat 0)),(.int .i64 (.ofNat 0)),(.int .i64 (.ofNat 0)),(.int .i64 (.ofNat 0)),(.int .i64 (.ofNat 0)),(.int .i64 (.ofNat 0)),.nils]),none⟩,
⟨d5,.p (.mv k0),none⟩])
 (.seq (.ops [⟨d9,.p (.mv t0),none⟩,
⟨d10,.p (.nilck t9),none⟩,
⟨d11,.p (.faddr 0 t10),none⟩,
⟨d12,.r (.ldS t11),none⟩,
⟨d13,.p (.nilck t12),none⟩,
⟨d14,.p (.faddr 0 t13),none⟩,
⟨d15,.r (.ldS t14),none⟩,
⟨d16,.p (.mv t1),none⟩,
⟨d17,.call p57 [t15,t16],none⟩,
⟨d8,.p (.mv t17),none⟩,
⟨d18,.p (.ext t8 0),none⟩,
⟨d19,.p (.ext t8 1),none⟩,
⟨d6,.a (.alloc 62 [(.int .i64 (.ofNat 0)),(.int .i64 (.ofNat 0)),(.int .i64 (.ofNat 0)),(.int .i64 (.ofNat 0)),(.int .i64 (.ofNat 0)),(.int .i64 (.ofNat 0)),.nils]),none⟩,
⟨none,.w (.st 7 t6 t18),none⟩,
⟨d7,.p (.mv t19),none⟩])
 (.seq (.seq (.ops [⟨d20,.p (.mv t7),none⟩,
⟨d21,.p (.not t20),none⟩,
⟨d22,.p (.mv t21),none⟩,
⟨d23,.p (.faddr 1 t6),(some (p22, false))⟩,
⟨d24,.r (.ldS t23),(some (p22, false))⟩,
⟨d25,.p (.bin .neq t24 k1),(some (p22, false))⟩,
⟨d26,.p (.pick t22 (.c (.bool true)) t25),none⟩,
⟨d27,.p (.mv t26),none⟩,
⟨d28,.p (.mv t0),(some (p27, false))⟩,
⟨d29,.p (.faddr 5 t6),(some (p27, false))⟩,
⟨d30,.r (.ldA 2 t29),(some (p27, false))⟩,
⟨d31,.call p100 [t28,t30],(some (p27, false))⟩,
⟨d32,.p (.not t31),(some (p27, false))⟩,
⟨d33,.p (.pick t27 (.c (.bool true)) t32),none⟩])
 (.cond t33 (.seq (.ops [⟨d34,.p (.build [(.int .i64 (.ofNat 0)),(.int .i64 (.ofNat 0)),(.int .i64 (.ofNat 0)),(.int .i64 (.ofNat 0)),(.int .i64 (.ofNat 0)),(.int .i64 (.ofNat 0)),.nils] []),none⟩,
⟨none,.w (.st 7 t4 t34),none⟩,
⟨d5,.p (.mv k4),none⟩])
 .ret)
 .skip))
 (.seq (.ops [⟨d35,.r (.ldA 7 t6),none⟩,
⟨none,.w (.st 7 t4 t35),none⟩,
⟨d5,.p (.mv k0),none⟩])
 .ret))))⟩
theorem c102 : Go.Ev.EntOk Go.Proofs.Tryz.prog (102, f102) := ⟨Go.Proofs.Tryz.f102, Go.Proofs.Tryz.func102, by kernel_rfl, Go.Proofs.Tryz.call102⟩
def f103 : IFunc := ⟨2, [.cA p4 7,.t p5], (.seq (.ops [⟨d3,.a (.box 56 t1),none⟩,
⟨d4,.a (.alloc 62 [(.int .i64 (.ofNat 0)),(.int .i64 (.ofNat 0)),(.int .i64 (.ofNat 0)),(.int .i64 (.ofNat 0)),(.int .i64 (.ofNat 0)),(.int .i64 (.ofNat 0)),.nils]),none⟩,
⟨d5,.p (.mv k0),none⟩])
 (.seq (.ops [⟨d11,.p (.mv t0),none⟩,
⟨d12,.p (.faddr 0 t3),none⟩,
⟨d13,.r (.ldS t12),none⟩,
⟨d14,.call p102 [t11,t13],none⟩,
⟨d10,.p (.mv t14),none⟩,
⟨d15,.p (.ext t10 0),none⟩,
⟨d16,.p (.ext t10 1),none⟩,
⟨d6,.a (.alloc 62 [(.int .i64 (.ofNat 0)),(.int .i64 (.ofNat 0)),(.int .i64 (.ofNat 0)),(.int .i64 (.ofNat 0)),(.int .i64 (.ofNat 0)),(.int .i64 (.ofNat 0)),.nils]),none⟩,
⟨none,.w (.st 7 t6 t15),none⟩,
⟨d7,.p (.mv t16),none⟩])
 (.seq (.seq (.reg [⟨[0],⟨d17,.p (.mv t7),none⟩,0,0⟩,
⟨[1],⟨d18,.p (.bin .neq t17 k0),none⟩,0,0⟩,
⟨[2],⟨d19,.p (.mv t18),none⟩,0,0⟩,
⟨[3],⟨d20,.p (.mv t0),(some (p19, false))⟩,0,0⟩,
⟨[4],⟨d21,.p (.nilck t20),(some (p19, false))⟩,0,0⟩,
⟨[5],⟨d22,.p (.faddr 0 t21),(some (p19, false))⟩,0,0⟩,
⟨[6],⟨d23,.r (.ldS t22),(some (p19, false))⟩,0,0⟩,
⟨[7],⟨d24,.p (.nilck t23),(some (p19, false))⟩,0,0⟩,
⟨[8],⟨d25,.p (.faddr 0 t24),(some (p19, false))⟩,0,0⟩,
⟨[9],⟨d26,.r (.ldS t25),(some (p19, false))⟩,0,0⟩,
⟨[10],⟨d27,.p (.faddr 0 t3),(some (p19, false))⟩,0,0⟩,
⟨[11],⟨d28,.r (.ldS t27),(some (p19, false))⟩,0,0⟩,
⟨[12],⟨d29,.p (.faddr 1 t3),(some (p19, false))⟩,0,0⟩,
⟨[13],⟨d30,.r (.ldS t29),(some (p19, false))⟩,0,0⟩,
⟨[14],⟨d31,.call p162 [t26,t28,t30],(some (p19, false))⟩,0,0⟩,
⟨[15],⟨d32,.p (.not t31),(some (p19, false))⟩,1,1⟩,
⟨[16],⟨d33,.p (.pick t19 (.c (.bool true)) t32),none⟩,1,1⟩])
 (.cond t33 (.seq (.ops [⟨d34,.p (.build [(.int .i64 (.ofNat 0)),(.int .i64 (.ofNat 0)),(.int .i64 (.ofNat 0)),(.int .i64 (.ofNat 0)),(.int .i64 (.ofNat 0)),(.int .i64 (.ofNat 0)),.nils] []),none⟩,
⟨none,.w (.st 7 t4 t34),none⟩,
⟨d5,.p (.mv k4),none⟩])
 .ret)
 .skip))
 (.seq (.reg [⟨[0],⟨d36,.p (.mv t0),none⟩,0,0⟩,
⟨[1],⟨d37,.p (.nilck t36),none⟩,0,0⟩,
⟨[2],⟨d38,.p (.faddr 0 t37),none⟩,0,0⟩,
⟨[3],⟨d39,.r (.ldS t38),none⟩,0,0⟩,
⟨[4],⟨d40,.p (.nilck t39),none⟩,0,0⟩,
⟨[5],⟨d41,.p (.faddr 0 t40),none⟩,0,0⟩,
⟨[6],⟨d42,.r (.ldS t41),none⟩,0,0⟩,
⟨[7],⟨d43,.p (.faddr 1 t3),none⟩,0,0⟩,
⟨[8],⟨d44,.r (.ldS t43),none⟩,0,0⟩,
⟨[9],⟨d45,.call p57 [t42,t44],none⟩,0,0⟩,
⟨[10],⟨d35,.p (.mv t45),none⟩,1,1⟩,
⟨[11],⟨d46,.p (.ext t35 0),none⟩,1,1⟩,
⟨[13],⟨d8,.a (.alloc 62 [(.int .i64 (.ofNat 0)),(.int .i64 (.ofNat 0)),(.int .i64 (.ofNat 0)),(.int .i64 (.ofNat 0)),(.int .i64 (.ofNat 0)),(.int .i64 (.ofNat 0)),.nils]),none⟩,0,1⟩,
⟨[14],⟨none,.w (.st 7 t8 t46),none⟩,1,1⟩,
⟨[12],⟨d47,.p (.ext t35 1),none⟩,1,2⟩,
⟨[15],⟨d9,.p (.mv t47),none⟩,2,2⟩])
 (.seq (.ops [⟨d48,.r (.ldA 7 t8),none⟩,
⟨none,.w (.st 7 t4 t48),none⟩,
⟨d5,.p (.mv k0),none⟩])
 .ret)))))⟩
theorem c103 : Go.Ev.EntOk Go.Proofs.Tryz.prog (103, f103) := ⟨Go.Proofs.Tryz.f103, Go.Proofs.Tryz.func103, by kernel_rfl, Go.Proofs.Tryz.call103⟩
def f104 : IFunc := ⟨2, [.t p4], (.seq (.ops [⟨d3,.a (.box 49 t1),none⟩,
⟨d4,.p (.mv (.c (.bool false))),none⟩])
 (.seq (.reg [⟨[0],⟨d5,.p (.mv t0),none⟩,0,0⟩,
⟨[1],⟨d6,.p (.nilck t5),none⟩,0,0⟩,
⟨[2],⟨d7,.p (.faddr 22 t6),none⟩,0,0⟩,
⟨[3],⟨d8,.r (.ldA 2 t7),none⟩,0,0⟩,
⟨[4],⟨d9,.r (.ldA 2 t3),none⟩,0,0⟩,
⟨[5],⟨d10,.call p163 [t8,t9],none⟩,0,0⟩,
⟨[6],⟨d4,.p (.mv t10),none⟩,1,1⟩])
 .ret))⟩
theorem c104 : Go.Ev.EntOk Go.Proofs.Tryz.prog (104, f104) := ⟨Go.Proofs.Tryz.f104, Go.Proofs.Tryz.func104, by kernel_rfl, Go.Proofs.Tryz.call104⟩
def f105 : IFunc := ⟨4, [.t p8], (.seq (.ops [⟨d4,.a (.box 49 t0),none⟩,
⟨d5,.a (.box 49 t1),none⟩,
⟨d6,.a (.box 49 t2),none⟩,
⟨d7,.a (.box 49 t3),none⟩,
⟨d8,.p (.mv k0),none⟩])
 (.seq (.reg [⟨[0],⟨d9,.r (.ldA 2 t4),none⟩,0,0⟩,
⟨[1],⟨d10,.r (.ldA 2 t6),none⟩,0,0⟩,
⟨[2],⟨d11,.call p163 [t9,t10],none⟩,0,0⟩,
⟨[3],⟨d12,.r (.ldA 2 t4),none⟩,0,1⟩,
⟨[4],⟨d13,.r (.ldA 2 t7),none⟩,0,1⟩,
⟨[5],⟨d14,.call p154 [t12,t13],none⟩,1,1⟩,
⟨[6],⟨d15,.r (.ldA 2 t7),none⟩,0,2⟩,
⟨[7],⟨d16,.r (.ldA 2 t5),none⟩,0,2⟩,
⟨[8],⟨d17,.call p154 [t15,t16],none⟩,2,2⟩,
⟨[10],⟨d19,.r (.ldA 2 t7),none⟩,0,3⟩,
⟨[11],⟨d20,.call p157 [t19],none⟩,3,3⟩,
⟨[9],⟨d18,.r (.ldA 2 t6),none⟩,0,4⟩,
⟨[12],⟨d21,.p (.build [(.int .i64 (.ofNat 0)),.nils] [(0, 1, k2)]),none⟩,0,4⟩,
⟨[13],⟨d22,.a (.bslice 49 2 2 [(.int .i64 (.ofNat 0)),.nils,(.int .i64 (.ofNat 0)),.nils] [(0, 2, t20),(2, 2, t21)]),none⟩,4,4⟩,
⟨[14],⟨d23,.call p156 [t18,t22],none⟩,4,4⟩,
⟨[15],⟨d24,.a (.bslice 4 1 4 [(.bool false),(.bool false),(.bool false),(.bool false)] [(0, 1, t11),(1, 1, t14),(2, 1, t17),(3, 1, t23)]),none⟩,5,5⟩,
⟨[16],⟨d25,.call p153 [t24],none⟩,5,5⟩,
⟨[17],⟨d8,.p (.mv t25),none⟩,6,6⟩])
 .ret))⟩
theorem c105 : Go.Ev.EntOk Go.Proofs.Tryz.prog (105, f105) := ⟨Go.Proofs.Tryz.f105, Go.Proofs.Tryz.func105, by kernel_rfl, Go.Proofs.Tryz.call105⟩
def f107 : IFunc := ⟨3, [.t p6,.t p7], (.seq (.ops [⟨d3,.a (.box 136 t0),none⟩,
⟨d6,.p (.mv (.c .nils)),none⟩,
⟨d7,.p (.mv k0),none⟩])
 (.seq (.ops [⟨d17,.r (.ldS t3),none⟩,
⟨d18,.p (.mv t1),none⟩,
⟨d19,.p (.mv t2),none⟩,
⟨d20,.call p167 [t17,t18,t19],none⟩,
⟨d16,.p (.mv t20),none⟩,
⟨d21,.p (.ext t16 0),none⟩,
⟨d22,.p (.ext t16 1),none⟩,
⟨d23,.p (.ext t16 2),none⟩,
⟨d8,.p (.mv t21),none⟩,
⟨d9,.p (.mv t22),none⟩,
⟨d10,.p (.mv t23),none⟩])
 (.seq (.seq (.ops [⟨d24,.p (.mv t10),none⟩,
⟨d25,.p (.bin .neq t24 k0),none⟩])
 (.cond t25 (.seq (.ops [⟨d26,.p (.mv t10),none⟩,
⟨d6,.p (.mv (.c .nils)),none⟩,
⟨d7,.p (.mv t26),none⟩])
 .ret)
 .skip))
 (.seq (.ops [⟨d11,.p (.mv (.c .nils)),none⟩])
 (.seq (.ops [⟨d27,.p (.mv t8),none⟩,
⟨d28,.p (.mv t9),none⟩,
⟨d29,.p (.build [.nilp,.nilp] [(0, 1, t27),(1, 1, t28)]),none⟩,
⟨d30,.a (.bslice 310 2 1 [.nilp,.nilp] [(0, 2, t29)]),none⟩,
⟨d12,.a (.alloc 311 [.nils]),none⟩,
⟨none,.w (.st 1 t12 t30),none⟩])
 (.seq (.block 0 (.loop (.seq (.seq (.ops [⟨d31,.r (.ldS t12),none⟩,
⟨d32,.p (.lenSl t31),none⟩,
⟨d33,.p (.bin .gtr t32 k0),none⟩])
 (.cond t33 .skip
 (.exit 0)))
 (.block 1 (.seq (.ops [⟨d34,.r (.ldS t12),none⟩,
⟨d35,.r (.ldS t12),none⟩,
⟨d36,.p (.lenSl t35),none⟩,
⟨d37,.p (.bin .sub t36 k1),none⟩,
⟨d38,.p (.iaddrS 2 t34 t37),none⟩,
⟨d39,.r (.ldA 2 t38),none⟩,
⟨d13,.a (.alloc 310 [.nilp,.nilp]),none⟩,
⟨none,.w (.st 2 t13 t39),none⟩])
 (.seq (.ops [⟨d40,.r (.ldS t12),none⟩,
⟨d41,.r (.ldS t12),none⟩,
⟨d42,.p (.lenSl t41),none⟩,
⟨d43,.p (.bin .sub t42 k1),none⟩,
⟨d44,.p (.slSl 2 t40 none (some t43) none),none⟩,
⟨none,.w (.st 1 t12 t44),none⟩])
 (.seq (.ops [⟨d45,.p (.faddr 0 t13),none⟩,
⟨d46,.r (.ldS t45),none⟩,
⟨d47,.p (.faddr 1 t13),none⟩,
⟨d48,.r (.ldS t47),none⟩,
⟨d49,.call p168 [t46,t48],none⟩])
 (.seq (.seq (.ops [⟨d50,.p (.faddr 1 t13),none⟩,
⟨d51,.r (.ldS t50),none⟩,
⟨d52,.p (.nilck t51),none⟩,
⟨d53,.p (.faddr 0 t52),none⟩,
⟨d54,.p (.faddr 4 t53),none⟩,
⟨d55,.r (.ldS t54),none⟩,
⟨d56,.p (.bin .gtr t55 k0),none⟩])
 (.cond t56 (.exit 1)
 .skip))
 (.seq (.ops [⟨d57,.p (.mv t11),none⟩,
⟨d58,.p (.faddr 1 t13),none⟩,
⟨d59,.r (.ldS t58),none⟩,
⟨d60,.p (.nilck t59),none⟩,
⟨d61,.p (.faddr 0 t60),none⟩,
⟨d62,.p (.faddr 0 t61),none⟩,
⟨d63,.r (.ldS t62),none⟩,
⟨d64,.a (.bslice 3 1 1 [(.int .i64 (.ofNat 0))] [(0, 1, t63)]),none⟩,
⟨d65,.w (.app 3 1 8 t57 t64),none⟩,
⟨d11,.p (.mv t65),none⟩])
 (.seq (.reg [⟨[0],⟨d66,.r (.ldS t3),none⟩,0,0⟩,
⟨[1],⟨d67,.p (.nilck t66),none⟩,0,0⟩,
⟨[2],⟨d68,.p (.faddr 0 t67),none⟩,0,0⟩,
⟨[3],⟨d69,.r (.ldS t68),none⟩,0,0⟩,
⟨[4],⟨d70,.p (.faddr 1 t13),none⟩,0,0⟩,
⟨[5],⟨d71,.r (.ldS t70),none⟩,0,0⟩,
⟨[6],⟨d72,.p (.nilck t71),none⟩,0,0⟩,
⟨[7],⟨d73,.p (.faddr 0 t72),none⟩,0,0⟩,
⟨[8],⟨d74,.p (.faddr 0 t73),none⟩,0,0⟩,
⟨[9],⟨d75,.r (.ldS t74),none⟩,0,0⟩,
⟨[10],⟨none,.w (.mdel t69 t75),none⟩,0,0⟩])
 (.seq (.ops [⟨d76,.p (.faddr 1 t13),none⟩,
⟨d77,.r (.ldS t76),none⟩,
⟨d78,.p (.nilck t77),none⟩,
⟨d79,.p (.faddr 7 t78),none⟩,
⟨d80,.p (.faddr 0 t79),none⟩,
⟨d81,.r (.ldS t80),none⟩,
⟨d82,.call p169 [t81],none⟩])
 (.block 2 (.rangef t82 [p83,p84] (.ops [⟨d15,.p (.mv t84),none⟩])
 (.block 3 (.reg [⟨[3],⟨d88,.r (.ldS t3),none⟩,0,0⟩,
⟨[4],⟨d89,.p (.mv t15),none⟩,0,0⟩,
⟨[5],⟨d90,.call p121 [t88,t89],none⟩,0,0⟩,
⟨[0],⟨d85,.r (.ldS t12),none⟩,0,1⟩,
⟨[1],⟨d86,.p (.faddr 1 t13),none⟩,0,1⟩,
⟨[2],⟨d87,.r (.ldS t86),none⟩,0,1⟩,
⟨[6],⟨d91,.p (.build [.nilp,.nilp] [(0, 1, t87),(1, 1, t90)]),none⟩,1,1⟩,
⟨[7],⟨d92,.a (.bslice 310 2 1 [.nilp,.nilp] [(0, 2, t91)]),none⟩,1,1⟩,
⟨[8],⟨d93,.w (.app 310 2 16 t85 t92),none⟩,1,1⟩,
⟨[9],⟨none,.w (.st 1 t12 t93),none⟩,2,2⟩])))))))))))))))
 (.seq (.ops [⟨d94,.p (.mv t11),none⟩,
⟨d6,.p (.mv t94),none⟩,
⟨d7,.p (.mv k0),none⟩])
 .ret)))))))⟩
theorem c107 : Go.Ev.EntOk Go.Proofs.Tryz.prog (107, f107) := ⟨Go.Proofs.Tryz.f107, Go.Proofs.Tryz.func107, by kernel_rfl, Go.Proofs.Tryz.call107⟩
def f108 : IFunc := ⟨2, [], (.seq (.seq (.ops [⟨d8,.p (.mv t1),none⟩,
⟨d9,.p (.lenSl t8),none⟩,
⟨d10,.p (.mv k0),none⟩])
 (.block 0 (.loop (.seq (.ops [⟨d11,.p (.bin .lss t10 t9),none⟩])
 (.seq (.cond t11 .skip
 (.exit 0))
 (.seq (.block 1 (.seq (.ops [⟨d12,.p (.iaddrS 1 t8 t10),none⟩,
⟨d13,.r (.ldS t12),none⟩,
⟨d5,.p (.mv t13),none⟩])
 (.seq (.ops [⟨d14,.p (.mv t0),none⟩,
⟨d15,.p (.nilck t14),none⟩,
⟨d16,.p (.faddr 2 t15),none⟩,
⟨d17,.r (.ldS t16),none⟩,
⟨d18,.p (.mv t5),none⟩,
⟨none,.w (.mdel t17 t18),none⟩])
 (.ops [⟨d19,.p (.mv t0),none⟩,
⟨d20,.p (.nilck t19),none⟩,
⟨d21,.p (.faddr 1 t20),none⟩,
⟨d22,.r (.ldS t21),none⟩,
⟨d23,.p (.mv t5),none⟩,
⟨d24,.call p170 [t22,t23],none⟩]))))
 (.ops [⟨d25,.p (.bin .add t10 k1),none⟩,
⟨d10,.p (.mv t25),none⟩])))))))
 (.seq (.ops [⟨d26,.p (.mv t1),none⟩,
⟨d27,.p (.lenSl t26),none⟩,
⟨d28,.p (.mv k0),none⟩])
 (.block 2 (.loop (.seq (.ops [⟨d29,.p (.bin .lss t28 t27),none⟩])
 (.seq (.cond t29 .skip
 (.exit 2))
 (.seq (.block 3 (.seq (.ops [⟨d30,.p (.iaddrS 1 t26 t28),none⟩,
⟨d31,.r (.ldS t30),none⟩,
⟨d7,.p (.mv t31),none⟩])
 (.ops [⟨d32,.p (.mv t0),none⟩,
⟨d33,.p (.mv t0),none⟩,
⟨d34,.p (.nilck t33),none⟩,
⟨d35,.p (.faddr 1 t34),none⟩,
⟨d36,.r (.ldS t35),none⟩,
⟨d37,.p (.mv t7),none⟩,
⟨d38,.call p171 [t36,t37],none⟩,
⟨d39,.call p113 [t32,t38],none⟩])))
 (.ops [⟨d40,.p (.bin .add t28 k1),none⟩,
⟨d28,.p (.mv t40),none⟩]))))))))⟩
theorem c108 : Go.Ev.EntOk Go.Proofs.Tryz.prog (108, f108) := ⟨Go.Proofs.Tryz.f108, Go.Proofs.Tryz.func108, by kernel_rfl, Go.Proofs.Tryz.call108⟩
def f110 : IFunc := ⟨3, [.t p6], (.seq (.ops [⟨d3,.a (.box 145 t0),none⟩,
⟨d6,.p (.mv k0),none⟩])
 (.seq (.ops [⟨d11,.p (.mv t2),none⟩,
⟨d12,.call p172 [t11,(.c (.str []))],none⟩,
⟨d7,.a (.alloc 9 [(.str [])]),none⟩,
⟨none,.w (.st 1 t7 t12),none⟩])
 (.seq (.seq (.ops [⟨d13,.r (.ldS t3),none⟩,
⟨d14,.p (.mv t1),none⟩,
⟨d15,.r (.ldS t7),none⟩,
⟨d16,.p (.lenStr t15),none⟩,
⟨d17,.call p126 [t13,t14,t16],none⟩,
⟨d8,.p (.mv t17),none⟩])
 (.seq (.ops [⟨d18,.p (.mv t8),none⟩,
⟨d19,.p (.bin .neq t18 k0),none⟩])
 (.cond t19 (.seq (.ops [⟨d20,.p (.mv t8),none⟩,
⟨d6,.p (.mv t20),none⟩])
 .ret)
 .skip)))
 (.seq (.seq (.ops [⟨d21,.p (.mv t1),none⟩,
⟨d22,.r (.ldS t7),none⟩,
⟨d23,.p (.lenStr t22),none⟩,
⟨d24,.call p127 [t21,t23],none⟩])
 (.block 0 (.rangef t24 [p25,p26] (.seq (.ops [⟨d9,.p (.mv t25),none⟩])
 (.ops [⟨d10,.a (.alloc 262 [(.int .i64 (.ofNat 0)),(.int .i64 (.ofNat 0))]),none⟩,
⟨none,.w (.st 2 t10 t26),none⟩]))
 (.block 1 (.reg [⟨[1],⟨d28,.r (.ldS t3),none⟩,0,0⟩,
⟨[2],⟨d29,.p (.mv t9),none⟩,0,0⟩,
⟨[3],⟨d30,.call p173 [t28,t29],none⟩,0,0⟩,
⟨[4],⟨d31,.p (.nilck t30),none⟩,1,1⟩,
⟨[5],⟨d32,.p (.iaddrA 2 1 t10 k0),none⟩,0,1⟩,
⟨[6],⟨d33,.r (.ldS t32),none⟩,0,1⟩,
⟨[7],⟨d34,.p (.iaddrA 2 1 t10 k1),none⟩,0,1⟩,
⟨[8],⟨d35,.r (.ldS t34),none⟩,0,1⟩,
⟨[9],⟨d36,.p (.slArr 64 1 t31 (some t33) (some t35) none),none⟩,1,1⟩,
⟨[10],⟨d37,.r (.ldS t7),none⟩,0,1⟩,
⟨[11],⟨d38,.w (.copy 1 t36 t37),none⟩,1,1⟩,
⟨[0],⟨d27,.r (.ldS t7),none⟩,0,2⟩,
⟨[12],⟨d39,.p (.slStr t27 (some t38) none),none⟩,2,2⟩,
⟨[13],⟨none,.w (.st 1 t7 t39),none⟩,2,2⟩])))))
 (.seq (.ops [⟨d6,.p (.mv k0),none⟩])
 .ret)))))⟩
theorem c110 : Go.Ev.EntOk Go.Proofs.Tryz.prog (110, f110) := ⟨Go.Proofs.Tryz.f110, Go.Proofs.Tryz.func110, by kernel_rfl, Go.Proofs.Tryz.call110⟩
def f111 : IFunc := ⟨2, [.t p4], (.seq (.ops [⟨d2,.a (.box 145 t0),none⟩,
⟨d4,.p (.mv k0),none⟩])
 (.seq (.block 0 (.seq (.ops [⟨d8,.r (.ldS t2),none⟩,
⟨d9,.p (.eqp false t8 (.c .nilp)),none⟩,
⟨d7,.p (.mv t9),none⟩])
 (.cond t7 (.seq (.ops [⟨d4,.p (.mv k4),none⟩])
 .ret)
 (.seq (.ops [⟨d11,.p (.mv t1),none⟩,
⟨d12,.p (.bin .lss t11 k0),none⟩,
⟨d13,.p (.mv t12),none⟩,
⟨d14,.p (.mv t1),(some (p13, false))⟩,
⟨d15,.p (.bin .gtr t14 (.c (.int .i64 (.ofNat 4096)))),(some (p13, false))⟩,
⟨d16,.p (.pick t13 (.c (.bool true)) t15),none⟩,
⟨d10,.p (.mv t16),none⟩])
 (.cond t10 (.seq (.ops [⟨d4,.p (.mv k1),none⟩])
 .ret)
 .skip)))))
 (.seq (.seq (.ops [⟨d17,.p (.mv t1),none⟩,
⟨d18,.r (.ldS t2),none⟩,
⟨d19,.p (.nilck t18),none⟩,
⟨d20,.p (.faddr 0 t19),none⟩,
⟨d21,.r (.ldS t20),none⟩,
⟨d22,.p (.bin .lss t17 t21),none⟩])
 (.cond t22 (.seq (.ops [⟨d23,.p (.mv t1),none⟩,
⟨d24,.r (.ldS t2),none⟩,
⟨d25,.p (.nilck t24),none⟩,
⟨d26,.p (.faddr 0 t25),none⟩,
⟨d27,.r (.ldS t26),none⟩,
⟨d28,.p (.mv t1),none⟩,
⟨d29,.p (.bin .sub t27 t28),none⟩,
⟨d30,.call p127 [t23,t29],none⟩])
 (.block 1 (.rangef t30 [p31,p32] (.seq (.ops [⟨d5,.p (.mv t31),none⟩])
 (.ops [⟨d6,.a (.alloc 262 [(.int .i64 (.ofNat 0)),(.int .i64 (.ofNat 0))]),none⟩,
⟨none,.w (.st 2 t6 t32),none⟩]))
 (.block 2 (.seq (.ops [⟨d33,.p (.iaddrA 2 1 t6 k0),none⟩,
⟨d34,.r (.ldS t33),none⟩,
⟨d35,.p (.bin .gtr t34 k0),none⟩])
 (.cond t35 (.reg [⟨[0],⟨d36,.r (.ldS t2),none⟩,0,0⟩,
⟨[1],⟨d37,.p (.mv t5),none⟩,0,0⟩,
⟨[2],⟨d38,.call p173 [t36,t37],none⟩,0,0⟩,
⟨[3],⟨d39,.p (.nilck t38),none⟩,1,1⟩,
⟨[4],⟨d40,.p (.iaddrA 2 1 t6 k0),none⟩,0,1⟩,
⟨[5],⟨d41,.r (.ldS t40),none⟩,0,1⟩,
⟨[6],⟨d42,.p (.iaddrA 2 1 t6 k1),none⟩,0,1⟩,
⟨[7],⟨d43,.r (.ldS t42),none⟩,0,1⟩,
⟨[8],⟨d44,.p (.slArr 64 1 t39 (some t41) (some t43) none),none⟩,1,1⟩,
⟨[9],⟨none,.w (.clearS 1 [(.int .u8 (.ofNat 0))] t44),none⟩,1,1⟩])
 .skip))))))
 .skip))
 (.seq (.ops [⟨d45,.r (.ldS t2),none⟩,
⟨d46,.p (.mv t1),none⟩,
⟨d47,.p (.nilck t45),none⟩,
⟨d48,.p (.faddr 0 t47),none⟩,
⟨none,.w (.st 1 t48 t46),none⟩])
 (.seq (.block 3 (.loop (.seq (.seq (.reg [⟨[5],⟨d54,.r (.ldS t2),none⟩,0,0⟩,
⟨[6],⟨d55,.call p174 [t54],none⟩,0,0⟩,
⟨[0],⟨d49,.r (.ldS t2),none⟩,0,1⟩,
⟨[1],⟨d50,.p (.nilck t49),none⟩,0,1⟩,
⟨[2],⟨d51,.p (.faddr 1 t50),none⟩,0,1⟩,
⟨[3],⟨d52,.r (.ldS t51),none⟩,0,1⟩,
⟨[4],⟨d53,.p (.lenSl t52),none⟩,0,1⟩,
⟨[7],⟨d56,.p (.bin .lss t53 t55),none⟩,1,1⟩])
 (.cond t56 .skip
 (.exit 3)))
 (.block 4 (.reg [⟨[6],⟨d63,.call p175 [],none⟩,0,0⟩,
⟨[2],⟨d59,.r (.ldS t2),none⟩,0,1⟩,
⟨[3],⟨d60,.p (.nilck t59),none⟩,0,1⟩,
⟨[4],⟨d61,.p (.faddr 1 t60),none⟩,0,1⟩,
⟨[5],⟨d62,.r (.ldS t61),none⟩,0,1⟩,
⟨[7],⟨d64,.a (.bslice 267 1 1 [.nilp] [(0, 1, t63)]),none⟩,1,1⟩,
⟨[8],⟨d65,.w (.app 267 1 8 t62 t64),none⟩,1,1⟩,
⟨[9],⟨d66,.r (.ldS t2),none⟩,0,2⟩,
⟨[10],⟨d67,.p (.nilck t66),none⟩,0,2⟩,
⟨[11],⟨d68,.p (.faddr 2 t67),none⟩,0,2⟩,
⟨[12],⟨d69,.r (.ldS t68),none⟩,0,2⟩,
⟨[13],⟨d70,.a (.bslice 4 1 1 [(.bool false)] [(0, 1, (.c (.bool true)))]),none⟩,0,2⟩,
⟨[14],⟨d71,.w (.app 4 1 1 t69 t70),none⟩,2,2⟩,
⟨[0],⟨d57,.r (.ldS t2),none⟩,0,3⟩,
⟨[15],⟨d72,.p (.nilck t57),none⟩,3,3⟩,
⟨[16],⟨d73,.p (.faddr 1 t72),none⟩,3,3⟩,
⟨[17],⟨none,.w (.st 1 t73 t65),none⟩,3,3⟩,
⟨[1],⟨d58,.r (.ldS t2),none⟩,0,4⟩,
⟨[18],⟨d74,.p (.nilck t58),none⟩,4,4⟩,
⟨[19],⟨d75,.p (.faddr 2 t74),none⟩,4,4⟩,
⟨[20],⟨none,.w (.st 1 t75 t71),none⟩,4,4⟩])))))
 (.seq (.reg [⟨[6],⟨d82,.r (.ldS t2),none⟩,0,0⟩,
⟨[7],⟨d83,.call p174 [t82],none⟩,0,0⟩,
⟨[13],⟨d89,.r (.ldS t2),none⟩,0,1⟩,
⟨[14],⟨d90,.call p174 [t89],none⟩,1,1⟩,
⟨[0],⟨d76,.r (.ldS t2),none⟩,0,2⟩,
⟨[2],⟨d78,.r (.ldS t2),none⟩,0,2⟩,
⟨[3],⟨d79,.p (.nilck t78),none⟩,0,2⟩,
⟨[4],⟨d80,.p (.faddr 1 t79),none⟩,0,2⟩,
⟨[5],⟨d81,.r (.ldS t80),none⟩,0,2⟩,
⟨[8],⟨d84,.p (.slSl 1 t81 none (some t83) none),none⟩,1,2⟩,
⟨[9],⟨d85,.r (.ldS t2),none⟩,0,2⟩,
⟨[10],⟨d86,.p (.nilck t85),none⟩,0,2⟩,
⟨[11],⟨d87,.p (.faddr 2 t86),none⟩,0,2⟩,
⟨[12],⟨d88,.r (.ldS t87),none⟩,0,2⟩,
⟨[16],⟨d92,.p (.nilck t76),none⟩,2,2⟩,
⟨[17],⟨d93,.p (.faddr 1 t92),none⟩,2,2⟩,
⟨[18],⟨none,.w (.st 1 t93 t84),none⟩,2,2⟩,
⟨[1],⟨d77,.r (.ldS t2),none⟩,0,3⟩,
⟨[15],⟨d91,.p (.slSl 1 t88 none (some t90) none),none⟩,2,3⟩,
⟨[19],⟨d94,.p (.nilck t77),none⟩,3,3⟩,
⟨[20],⟨d95,.p (.faddr 2 t94),none⟩,3,3⟩,
⟨[21],⟨none,.w (.st 1 t95 t91),none⟩,3,3⟩])
 (.seq (.ops [⟨d4,.p (.mv k0),none⟩])
 .ret)))))))⟩
theorem c111 : Go.Ev.EntOk Go.Proofs.Tryz.prog (111, f111) := ⟨Go.Proofs.Tryz.f111, Go.Proofs.Tryz.func111, by kernel_rfl, Go.Proofs.Tryz.call111⟩
def f112 : IFunc := ⟨2, [.t p4,.t p5], (.seq (.ops [⟨d4,.p (.mv (.c (.int .u64 (.ofNat 0)))),none⟩,
⟨d5,.p (.mv k0),none⟩])
 (.seq (.ops [⟨d11,.p (.mv t0),none⟩,
⟨d12,.p (.mv t1),none⟩,
⟨d13,.call p62 [t11,t12,k8],none⟩,
⟨d10,.p (.mv t13),none⟩,
⟨d14,.p (.ext t10 0),none⟩,
⟨d15,.p (.ext t10 1),none⟩,
⟨d6,.p (.mv t14),none⟩,
⟨d7,.p (.mv t15),none⟩])
 (.seq (.ops [⟨d8,.p (.mv (.c (.int .u64 (.ofNat 0)))),none⟩])
 (.seq (.seq (.ops [⟨d16,.p (.mv t6),none⟩,
⟨d17,.p (.lenStr t16),none⟩,
⟨d18,.p (.mv k0),none⟩])
 (.block 0 (.loop (.seq (.ops [⟨d19,.p (.bin .lss t18 t17),none⟩])
 (.seq (.cond t19 .skip
 (.exit 0))
 (.seq (.block 1 (.seq (.ops [⟨d20,.p (.mv t18),none⟩,
⟨d9,.p (.mv t20),none⟩])
 (.ops [⟨d21,.p (.mv t8),none⟩,
⟨d22,.p (.mv t6),none⟩,
⟨d23,.p (.mv t9),none⟩,
⟨d24,.p (.idxStr t22 t23),none⟩,
⟨d25,.p (.conv .u64 t24),none⟩,
⟨d26,.p (.mv t9),none⟩,
⟨d27,.p (.bin .mul k8 t26),none⟩,
⟨d28,.p (.bin .shl t25 t27),none⟩,
⟨d29,.p (.bin .or t21 t28),none⟩,
⟨d8,.p (.mv t29),none⟩])))
 (.ops [⟨d30,.p (.bin .add t18 k1),none⟩,
⟨d18,.p (.mv t30),none⟩])))))))
 (.seq (.ops [⟨d31,.p (.mv t8),none⟩,
⟨d32,.p (.mv t7),none⟩,
⟨d4,.p (.mv t31),none⟩,
⟨d5,.p (.mv t32),none⟩])
 .ret)))))⟩
theorem c112 : Go.Ev.EntOk Go.Proofs.Tryz.prog (112, f112) := ⟨Go.Proofs.Tryz.f112, Go.Proofs.Tryz.func112, by kernel_rfl, Go.Proofs.Tryz.call112⟩
def f113 : IFunc := ⟨2, [], (.seq (.ops [⟨d7,.p (.mv t1),none⟩,
⟨d8,.p (.lenSl t7),none⟩,
⟨d9,.p (.mv k0),none⟩])
 (.block 0 (.loop (.seq (.ops [⟨d10,.p (.bin .lss t9 t8),none⟩])
 (.seq (.cond t10 .skip
 (.exit 0))
 (.seq (.block 1 (.seq (.ops [⟨d11,.p (.iaddrS 1 t7 t9),none⟩,
⟨d12,.r (.ldS t11),none⟩,
⟨d5,.p (.mv t12),none⟩])
 (.seq (.ops [⟨d13,.p (.mv t0),none⟩,
⟨d14,.p (.nilck t13),none⟩,
⟨d15,.p (.faddr 2 t14),none⟩,
⟨d16,.r (.ldS t15),none⟩,
⟨d17,.p (.mv t5),none⟩,
⟨d18,.r (.look .nilp t16 t17 false),none⟩,
⟨d6,.p (.mv t18),none⟩])
 (.seq (.ops [⟨d19,.p (.mv t6),none⟩,
⟨d20,.p (.eqp true t19 (.c .nilp)),none⟩])
 (.cond t20 (.ops [⟨d21,.p (.mv t6),none⟩,
⟨d22,.p (.nilck t21),none⟩,
⟨d23,.p (.faddr 24 t22),none⟩,
⟨none,.w (.st 1 t23 k0),none⟩])
 .skip)))))
 (.ops [⟨d24,.p (.bin .add t9 k1),none⟩,
⟨d9,.p (.mv t24),none⟩])))))))⟩
theorem c113 : Go.Ev.EntOk Go.Proofs.Tryz.prog (113, f113) := ⟨Go.Proofs.Tryz.f113, Go.Proofs.Tryz.func113, by kernel_rfl, Go.Proofs.Tryz.call113⟩
def f114 : IFunc := ⟨3, [.t p6], (.seq (.ops [⟨d6,.p (.mv (.c .nils)),none⟩])
 (.seq (.ops [⟨d7,.p (.mv t0),none⟩,
⟨d8,.p (.mv t0),none⟩,
⟨d9,.p (.mv t1),none⟩,
⟨d10,.p (.mv t2),none⟩,
⟨d11,.call p177 [t8,t9,t10],none⟩,
⟨d12,.call p176 [t7,t11],none⟩,
⟨d6,.p (.mv t12),none⟩])
 .ret))⟩
theorem c114 : Go.Ev.EntOk Go.Proofs.Tryz.prog (114, f114) := ⟨Go.Proofs.Tryz.f114, Go.Proofs.Tryz.func114, by kernel_rfl, Go.Proofs.Tryz.call114⟩
def f115 : IFunc := ⟨4, [.t p8], (.seq (.ops [⟨d8,.p (.mv k0),none⟩])
 (.seq (.seq (.ops [⟨d11,.p (.mv t0),none⟩,
⟨d12,.p (.eqp false t11 (.c .nilp)),none⟩])
 (.cond t12 (.seq (.ops [⟨d8,.p (.mv k4),none⟩])
 .ret)
 .skip))
 (.seq (.ops [⟨d14,.p (.mv t0),none⟩,
⟨d15,.p (.nilck t14),none⟩,
⟨d16,.p (.faddr 1 t15),none⟩,
⟨d17,.r (.ldS t16),none⟩,
⟨d18,.p (.mv t1),none⟩,
⟨d19,.r (.look (.agg [(.int .i64 (.ofNat 0)),(.int .i64 (.ofNat 0)),(.int .i64 (.ofNat 0))]) t17 t18 true),none⟩,
⟨d13,.p (.mv t19),none⟩,
⟨d20,.p (.ext t13 0),none⟩,
⟨d21,.p (.ext t13 1),none⟩,
⟨d9,.a (.alloc 275 [(.int .i64 (.ofNat 0)),(.int .i64 (.ofNat 0)),(.int .i64 (.ofNat 0))]),none⟩,
⟨none,.w (.st 3 t9 t20),none⟩,
⟨d10,.p (.mv t21),none⟩])
 (.seq (.block 0 (.seq (.ops [⟨d23,.p (.mv t1),none⟩,
⟨d24,.call p178 [t23],none⟩,
⟨d25,.p (.not t24),none⟩,
⟨d26,.p (.mv t25),none⟩,
⟨d27,.p (.mv t2),(some (p26, false))⟩,
⟨d28,.call p178 [t27],(some (p26, false))⟩,
⟨d29,.p (.not t28),(some (p26, false))⟩,
⟨d30,.p (.pick t26 (.c (.bool true)) t29),none⟩,
⟨d31,.p (.mv t30),none⟩,
⟨d32,.p (.mv t3),(some (p31, false))⟩,
⟨d33,.p (.bin .lss t32 k0),(some (p31, false))⟩,
⟨d34,.p (.pick t31 (.c (.bool true)) t33),none⟩,
⟨d35,.p (.mv t34),none⟩,
⟨d36,.p (.mv t3),(some (p35, false))⟩,
⟨d37,.p (.bin .geq t36 (.c (.int .i64 (.ofNat 4096)))),(some (p35, false))⟩,
⟨d38,.p (.pick t35 (.c (.bool true)) t37),none⟩,
⟨d22,.p (.mv t38),none⟩])
 (.cond t22 (.seq (.ops [⟨d8,.p (.mv k1),none⟩])
 .ret)
 (.seq (.ops [⟨d40,.p (.mv t10),none⟩,
⟨d39,.p (.mv t40),none⟩])
 (.cond t39 (.seq (.ops [⟨d8,.p (.mv k8),none⟩])
 .ret)
 (.seq (.ops [⟨d42,.p (.mv t0),none⟩,
⟨d43,.p (.nilck t42),none⟩,
⟨d44,.p (.faddr 2 t43),none⟩,
⟨d45,.r (.ldS t44),none⟩,
⟨d46,.p (.mv t1),none⟩,
⟨d47,.r (.look (.agg [.nils]) t45 t46 false),none⟩,
⟨d48,.p (.fieldS 0 t47),none⟩,
⟨d49,.p (.lenSl t48),none⟩,
⟨d50,.p (.bin .gtr t49 k0),none⟩,
⟨d41,.p (.mv t50),none⟩])
 (.cond t41 (.seq (.ops [⟨d8,.p (.mv k10),none⟩])
 .ret)
 .skip)))))))
 (.seq (.ops [⟨d51,.p (.mv t0),none⟩,
⟨d52,.p (.nilck t51),none⟩,
⟨d53,.p (.faddr 0 t52),none⟩,
⟨d54,.r (.ldS t53),none⟩,
⟨d55,.p (.bin .add t54 k1),none⟩,
⟨d56,.p (.nilck t51),none⟩,
⟨d57,.p (.faddr 0 t56),none⟩,
⟨none,.w (.st 1 t57 t55),none⟩])
 (.seq (.reg [⟨[0],⟨d58,.p (.mv t0),none⟩,0,0⟩,
⟨[1],⟨d59,.p (.nilck t58),none⟩,0,0⟩,
⟨[2],⟨d60,.p (.faddr 1 t59),none⟩,0,0⟩,
⟨[3],⟨d61,.r (.ldS t60),none⟩,0,0⟩,
⟨[4],⟨d62,.p (.mv t1),none⟩,0,0⟩,
⟨[5],⟨d63,.p (.mv t2),none⟩,0,0⟩,
⟨[6],⟨d64,.p (.mv t3),none⟩,0,0⟩,
⟨[7],⟨d65,.p (.build [(.int .i64 (.ofNat 0)),(.int .i64 (.ofNat 0))] [(0, 1, t63),(1, 1, t64)]),none⟩,0,0⟩,
⟨[8],⟨d66,.p (.mv t0),none⟩,0,0⟩,
⟨[9],⟨d67,.p (.nilck t66),none⟩,0,0⟩,
⟨[10],⟨d68,.p (.faddr 0 t67),none⟩,0,0⟩,
⟨[11],⟨d69,.r (.ldS t68),none⟩,0,0⟩,
⟨[12],⟨d70,.p (.build [(.int .i64 (.ofNat 0)),(.int .i64 (.ofNat 0)),(.int .i64 (.ofNat 0))] [(0, 2, t65),(2, 1, t69)]),none⟩,0,0⟩,
⟨[13],⟨none,.w (.mupd t61 t62 t70),none⟩,0,0⟩])
 (.seq (.ops [⟨d8,.p (.mv k0),none⟩])
 .ret)))))))⟩
theorem c115 : Go.Ev.EntOk Go.Proofs.Tryz.prog (115, f115) := ⟨Go.Proofs.Tryz.f115, Go.Proofs.Tryz.func115, by kernel_rfl, Go.Proofs.Tryz.call115⟩
def f121 : IFunc := ⟨2, [.t p4], (.seq (.ops [⟨d4,.p (.mv (.c .nilp)),none⟩])
 (.seq (.seq (.ops [⟨d5,.p (.mv t0),none⟩,
⟨d6,.p (.eqp false t5 (.c .nilp)),none⟩])
 (.cond t6 (.seq (.ops [⟨d4,.p (.mv (.c .nilp)),none⟩])
 .ret)
 .skip))
 (.seq (.ops [⟨d7,.p (.mv t0),none⟩,
⟨d8,.p (.nilck t7),none⟩,
⟨d9,.p (.faddr 0 t8),none⟩,
⟨d10,.r (.ldS t9),none⟩,
⟨d11,.p (.mv t1),none⟩,
⟨d12,.r (.look .nilp t10 t11 false),none⟩,
⟨d4,.p (.mv t12),none⟩])
 .ret)))⟩
theorem c121 : Go.Ev.EntOk Go.Proofs.Tryz.prog (121, f121) := ⟨Go.Proofs.Tryz.f121, Go.Proofs.Tryz.func121, by kernel_rfl, Go.Proofs.Tryz.call121⟩
def f122 : IFunc := ⟨1, [.cA p2 2], (.seq (.ops [⟨d1,.a (.box 49 t0),none⟩,
⟨d2,.a (.alloc 49 [(.int .i64 (.ofNat 0)),.nils]),none⟩])
 (.seq (.reg [⟨[2],⟨d5,.p (.faddr 1 t1),none⟩,0,0⟩,
⟨[3],⟨d6,.r (.ldS t5),none⟩,0,0⟩,
⟨[4],⟨d7,.call p123 [t6],none⟩,0,0⟩,
⟨[0],⟨d3,.p (.faddr 0 t1),none⟩,0,1⟩,
⟨[1],⟨d4,.r (.ldS t3),none⟩,0,1⟩,
⟨[5],⟨d8,.p (.build [(.int .i64 (.ofNat 0)),.nils] [(0, 1, t4),(1, 1, t7)]),none⟩,1,1⟩,
⟨[6],⟨none,.w (.st 2 t2 t8),none⟩,1,1⟩])
 .ret))⟩
theorem c122 : Go.Ev.EntOk Go.Proofs.Tryz.prog (122, f122) := ⟨Go.Proofs.Tryz.f122, Go.Proofs.Tryz.func122, by kernel_rfl, Go.Proofs.Tryz.call122⟩
def f123 : IFunc := ⟨1, [.t p2], (.seq (.ops [⟨d2,.p (.mv (.c .nils)),none⟩])
 (.seq (.seq (.ops [⟨d3,.p (.mv t0),none⟩,
⟨d4,.p (.eqs false t3 (.c .nils)),none⟩])
 (.cond t4 (.seq (.ops [⟨d2,.p (.mv (.c .nils)),none⟩])
 .ret)
 .skip))
 (.seq (.ops [⟨d5,.a (.bslice 178 2 0 [] []),none⟩,
⟨d6,.p (.mv t0),none⟩,
⟨d7,.w (.app 178 2 16 t5 t6),none⟩,
⟨d2,.p (.mv t7),none⟩])
 .ret)))⟩
theorem c123 : Go.Ev.EntOk Go.Proofs.Tryz.prog (123, f123) := ⟨Go.Proofs.Tryz.f123, Go.Proofs.Tryz.func123, by kernel_rfl, Go.Proofs.Tryz.call123⟩
def f124 : IFunc := ⟨1, [.t p2], (.seq (.ops [⟨d2,.p (.mv (.c .nils)),none⟩])
 (.seq (.seq (.ops [⟨d3,.p (.mv t0),none⟩,
⟨d4,.p (.eqs false t3 (.c .nils)),none⟩])
 (.cond t4 (.seq (.ops [⟨d2,.p (.mv (.c .nils)),none⟩])
 .ret)
 .skip))
 (.seq (.ops [⟨d5,.a (.bslice 3 1 0 [] []),none⟩,
⟨d6,.p (.mv t0),none⟩,
⟨d7,.w (.app 3 1 8 t5 t6),none⟩,
⟨d2,.p (.mv t7),none⟩])
 .ret)))⟩
theorem c124 : Go.Ev.EntOk Go.Proofs.Tryz.prog (124, f124) := ⟨Go.Proofs.Tryz.f124, Go.Proofs.Tryz.func124, by kernel_rfl, Go.Proofs.Tryz.call124⟩
def f125 : IFunc := ⟨2, [.t p4,.t p5], (.seq (.ops [⟨d4,.p (.mv (.c .nilp)),none⟩,
⟨d5,.p (.mv k0),none⟩])
 (.seq (.ops [⟨d7,.p (.mv t0),none⟩,
⟨d8,.p (.mv t1),none⟩,
⟨d9,.call p121 [t7,t8],none⟩,
⟨d6,.p (.mv t9),none⟩])
 (.seq (.block 0 (.seq (.ops [⟨d11,.p (.mv t6),none⟩,
⟨d12,.p (.eqp false t11 (.c .nilp)),none⟩,
⟨d10,.p (.mv t12),none⟩])
 (.cond t10 (.seq (.ops [⟨d4,.p (.mv (.c .nilp)),none⟩,
⟨d5,.p (.mv k4),none⟩])
 .ret)
 (.seq (.ops [⟨d14,.p (.mv t6),none⟩,
⟨d15,.p (.nilck t14),none⟩,
⟨d16,.p (.faddr 0 t15),none⟩,
⟨d17,.p (.faddr 1 t16),none⟩,
⟨d18,.r (.ldS t17),none⟩,
⟨d19,.p (.bin .neq t18 k1),none⟩,
⟨d13,.p (.mv t19),none⟩])
 (.cond t13 (.seq (.ops [⟨d4,.p (.mv (.c .nilp)),none⟩,
⟨d5,.p (.mv k5),none⟩])
 .ret)
 .skip)))))
 (.seq (.ops [⟨d20,.p (.mv t6),none⟩,
⟨d4,.p (.mv t20),none⟩,
⟨d5,.p (.mv k0),none⟩])
 .ret))))⟩
theorem c125 : Go.Ev.EntOk Go.Proofs.Tryz.prog (125, f125) := ⟨Go.Proofs.Tryz.f125, Go.Proofs.Tryz.func125, by kernel_rfl, Go.Proofs.Tryz.call125⟩
def f126 : IFunc := ⟨3, [.t p6], (.seq (.ops [⟨d6,.p (.mv k0),none⟩])
 (.seq (.block 0 (.seq (.ops [⟨d8,.p (.mv t0),none⟩,
⟨d9,.p (.eqp false t8 (.c .nilp)),none⟩,
⟨d7,.p (.mv t9),none⟩])
 (.cond t7 (.seq (.ops [⟨d6,.p (.mv k4),none⟩])
 .ret)
 (.seq (.ops [⟨d11,.p (.mv t1),none⟩,
⟨d12,.p (.bin .lss t11 k0),none⟩,
⟨d13,.p (.mv t12),none⟩,
⟨d14,.p (.mv t2),(some (p13, false))⟩,
⟨d15,.p (.bin .lss t14 k0),(some (p13, false))⟩,
⟨d16,.p (.pick t13 (.c (.bool true)) t15),none⟩,
⟨d17,.p (.mv t16),none⟩,
⟨d18,.p (.mv t1),(some (p17, false))⟩,
⟨d19,.p (.mv t0),(some (p17, false))⟩,
⟨d20,.p (.nilck t19),(some (p17, false))⟩,
⟨d21,.p (.faddr 0 t20),(some (p17, false))⟩,
⟨d22,.r (.ldS t21),(some (p17, false))⟩,
⟨d23,.p (.bin .gtr t18 t22),(some (p17, false))⟩,
⟨d24,.p (.pick t17 (.c (.bool true)) t23),none⟩,
⟨d25,.p (.mv t24),none⟩,
⟨d26,.p (.mv t2),(some (p25, false))⟩,
⟨d27,.p (.mv t0),(some (p25, false))⟩,
⟨d28,.p (.nilck t27),(some (p25, false))⟩,
⟨d29,.p (.faddr 0 t28),(some (p25, false))⟩,
⟨d30,.r (.ldS t29),(some (p25, false))⟩,
⟨d31,.p (.mv t1),(some (p25, false))⟩,
⟨d32,.p (.bin .sub t30 t31),(some (p25, false))⟩,
⟨d33,.p (.bin .gtr t26 t32),(some (p25, false))⟩,
⟨d34,.p (.pick t25 (.c (.bool true)) t33),none⟩,
⟨d10,.p (.mv t34),none⟩])
 (.cond t10 (.seq (.ops [⟨d6,.p (.mv k9),none⟩])
 .ret)
 .skip)))))
 (.seq (.ops [⟨d6,.p (.mv k0),none⟩])
 .ret)))⟩
theorem c126 : Go.Ev.EntOk Go.Proofs.Tryz.prog (126, f126) := ⟨Go.Proofs.Tryz.f126, Go.Proofs.Tryz.func126, by kernel_rfl, Go.Proofs.Tryz.call126⟩
end Go.Ev.G
